/- GetBox, GetPoly: the program's; the document's pairs and boxes. The document's GetPoly. How great terms are; are they the same? Laws ClaimBoxes, ClaimPolys. Arguments: terms, limits. What the row's list gives: the library's table, as the engine reads it. -/
import Derived.Test.YtakaojkfipnfcaaGreatDoorG27
import Derived.Test.YtakaojkfipnfcaaGreatDoorG13
import Derived.Test.YtakaojkfipnfcaaGreatDoorG21
import Derived.Test.YtakaojkfipnfcaaGreatDoorG19
import Derived.Test.YtakaojkfipnfcaaGreatDoorG10
import Derived.Lib.LaidTab
set_option linter.unusedVariables false
set_option linter.unusedSimpArgs false
set_option maxRecDepth 100000
set_option maxHeartbeats 4000000
namespace Go.Proofs.YtakaojkfipnfcaaGreatDoor.Lv
open Go Go.RowKit
/-- What is told at the end. -/
def fnV {α : Type} (d : α) (x : α × Rs) : α × Rs := if x.2.2 = 0 then x else (d, (0, x.2.2))
theorem fnV_ok {α : Type} {d : α} {x : α × Rs} (h : x.2.2 = 0) : fnV d x = x := if_pos h
theorem fnV_err {α : Type} {d : α} {x : α × Rs} (h : x.2.2 ≠ 0) : fnV d x = (d, (0, x.2.2)) := if_neg h
def gbV (b : Txt) (l : Lm) (a n : Int) : List (Txt × Txt) × Rs := if n < 1 ∨ 3 < n ∨ a < 0 ∨ (b.length : Int) < a then ([], (0, 1)) else fnV [] (bxF b l.b n.toNat (a.toNat, 0))
def gbD (x : List (Txt × Txt) × Rs) : D := .tup [txD x.1, .int .i64 x.2.1, .int .i64 x.2.2]
def gpV (b : Txt) (l : Lm) (a : Int) : List Tm × Rs := if a < 0 ∨ (b.length : Int) < a then ([], (0, 1)) else fnV [] (plF b l.t l.b (a.toNat, 0))
def gpD (x : List Tm × Rs) : D := .tup [tmD x.1, .int .i64 x.2.1, .int .i64 x.2.2]
theorem LeV_gb (e : Int) : LeV (.tup [.nils, .int .i64 0, .int .i64 e]) (.tup [txD [], .int .i64 0, .int .i64 e]) := LeV.tup (LesV.cons LeV.nils (LesV.refl _))
theorem LeV_gp (e : Int) : LeV (.tup [.nils, .int .i64 0, .int .i64 e]) (.tup [tmD [], .int .i64 0, .int .i64 e]) := LeV.tup (LesV.cons LeV.nils (LesV.refl _))
theorem claim_GetBox {b : Txt} {l : Lm} {a n : Int} (hb : b.length < 100000000) (hl : l.ok) (ha : I6 a) (hn : I6 n) : C E 27 [.str b, .int .i64 a, .int .i64 n, lmD l] (gbD (gbV b l a n)) := by
  refine CG_intro Tryz.func27 rfl (by kernel_rfl) rfl (by kernel_rfl) (by kernel_rfl) rfl ?_
  unfold gbD
  unfold I6 at ha hn
  by_cases hA : a < 0 ∨ (b.length : Int) < a
  · have hf := claim_from0 (l := l) hb hA
    have hv : gbV b l a n = ([], (0, 1)) := by unfold gbV; rw [if_pos (by omega)]
    have hx := in_box0 (b := []) (l := lm0) (s := (0, 1)) ⟨Nat.zero_le _, by show 1 < 18; omega⟩ (by simp) (by simp) (n := n) hn
    rw [hv]
    simp (disch := first | exact dd | fail) only [go_sem, seval, lmD]
    refine callG [] hf rfl rfl (LesV.refl _) rfl ?_
    simp (disch := first | exact dd | fail) only [go_sem, seval, rdB, lm0]
    by_cases q : n < 1
    · simp (disch := first | exact dd | fail) only [go_sem, seval, rdB, lm0]
      refine callG [2] hx rfl rfl (LesV.refl _) rfl ?_
      simp (disch := first | exact dd | fail) only [go_sem, seval, rdH, rdB, lm0]
      exact LeV_gb _
    · by_cases q2 : 3 < n
      · simp (disch := first | exact dd | fail) only [go_sem, seval, rdB, lm0]
        refine callG [2] hx rfl rfl (LesV.refl _) rfl ?_
        simp (disch := first | exact dd | fail) only [go_sem, seval, rdH, rdB, lm0]
        exact LeV_gb _
      · simp (disch := first | exact dd | fail) only [go_sem, seval, rdB, lm0]
        refine callG [2] hx rfl rfl (LesV.refl _) rfl ?_
        simp (disch := first | exact dd | fail) only [go_sem, seval, rdH, rdB, lm0]
        exact LeV_gb _
  have hf := claim_from (l := l) (a := a) hb (by omega) (by omega)
  have hs0 : RsOk b (a.toNat, 0) := ⟨by show a.toNat ≤ _; omega, by show 0 < 18; omega⟩
  simp (disch := first | exact dd | fail) only [go_sem, seval, lmD]
  refine callG [] hf rfl rfl (LesV.refl _) rfl ?_
  by_cases q : n < 1
  · have hx := in_box0 (b := b) (l := l) (s := (a.toNat, 1)) ⟨hs0.1, by show 1 < 18; omega⟩ hb (by simp) (n := n) hn
    have hv : gbV b l a n = ([], (0, 1)) := by unfold gbV; rw [if_pos (by omega)]
    rw [hv]
    simp (disch := first | exact dd | fail) only [go_sem, seval, rdB]
    refine callG [2] hx rfl rfl (LesV.refl _) rfl ?_
    simp (disch := first | exact dd | fail) only [go_sem, seval, rdH, rdB]
    exact LeV_gb _
  by_cases q2 : 3 < n
  · have hx := in_box0 (b := b) (l := l) (s := (a.toNat, 1)) ⟨hs0.1, by show 1 < 18; omega⟩ hb (by simp) (n := n) hn
    have hv : gbV b l a n = ([], (0, 1)) := by unfold gbV; rw [if_pos (by omega)]
    rw [hv]
    simp (disch := first | exact dd | fail) only [go_sem, seval, rdB]
    refine callG [2] hx rfl rfl (LesV.refl _) rfl ?_
    simp (disch := first | exact dd | fail) only [go_sem, seval, rdH, rdB]
    exact LeV_gb _
  have hv : gbV b l a n = fnV [] (bxF b l.b n.toNat (a.toNat, 0)) := by unfold gbV; rw [if_neg (by omega)]
  rw [hv]
  have hx := in_box (l := l) hs0 hb hl (n := n.toNat) (by omega)
  have hr := bxF_rs (bits := l.b) (n := n.toNat) hs0
  rw [show ((n.toNat : Nat) : Int) = n by omega] at hx
  generalize bxF b l.b n.toNat (a.toNat, 0) = x at *
  obtain ⟨r, p, e⟩ := x
  obtain ⟨⟨r1, r2⟩, r3⟩ := hr
  simp only at r1 r2 r3
  simp (disch := first | exact dd | fail) only [go_sem, seval, rdB]
  refine callG [2] hx rfl rfl (LesV.refl _) rfl ?_
  by_cases he : e = 0
  · subst he
    rw [fnV_ok rfl]
    simp (disch := first | exact dd | fail) only [go_sem, seval, rdH, rdB]
    try exact LeV.refl _
  · rw [fnV_err he]
    simp (disch := first | exact dd | fail) only [go_sem, seval, rdH, rdB]
    exact LeV_gb _
theorem claim_GetPoly {b : Txt} {l : Lm} {a : Int} (hb : b.length < 100000) (hl : l.ok) (ha : I6 a) : C E 33 [.str b, .int .i64 a, lmD l] (gpD (gpV b l a)) := by
  refine CG_intro Tryz.func33 rfl (by kernel_rfl) rfl (by kernel_rfl) (by kernel_rfl) rfl ?_
  unfold gpD
  unfold I6 at ha
  by_cases hA : a < 0 ∨ (b.length : Int) < a
  · have hf := claim_from0 (l := l) (b := b) (by omega) hA
    have hv : gpV b l a = ([], (0, 1)) := by unfold gpV; rw [if_pos hA]
    have hx := in_poly (b := []) (l := lm0) (s := (0, 1)) ⟨Nat.zero_le _, by show 1 < 18; omega⟩ (by simp) ⟨⟨by decide, by decide⟩, ⟨by decide, by decide⟩⟩
    rw [plF_err (by simp)] at hx
    rw [hv]
    simp (disch := first | exact dd | fail) only [go_sem, seval, lmD]
    refine callG [] hf rfl rfl (LesV.refl _) rfl ?_
    simp (disch := first | exact dd | fail) only [go_sem, seval, rdB, lm0]
    refine callG [2] hx rfl rfl (LesV.refl _) rfl ?_
    simp (disch := first | exact dd | fail) only [go_sem, seval, rdH, rdB, lm0]
    exact LeV_gp _
  have hf := claim_from (l := l) (b := b) (a := a) (by omega) (by omega) (by omega)
  have hs0 : RsOk b (a.toNat, 0) := ⟨by show a.toNat ≤ _; omega, by show 0 < 18; omega⟩
  have hv : gpV b l a = fnV [] (plF b l.t l.b (a.toNat, 0)) := by unfold gpV; rw [if_neg hA]
  rw [hv]
  have hx := in_poly (l := l) hs0 hb hl
  have hr := plF_rs (T := l.t) (bits := l.b) hs0
  generalize plF b l.t l.b (a.toNat, 0) = x at *
  obtain ⟨r, p, e⟩ := x
  obtain ⟨⟨r1, r2⟩, r3⟩ := hr
  simp only at r1 r2 r3
  simp (disch := first | exact dd | fail) only [go_sem, seval, lmD]
  refine callG [] hf rfl rfl (LesV.refl _) rfl ?_
  simp (disch := first | exact dd | fail) only [go_sem, seval, rdB]
  refine callG [2] hx rfl rfl (LesV.refl _) rfl ?_
  by_cases he : e = 0
  · subst he
    rw [fnV_ok rfl]
    simp (disch := first | exact dd | fail) only [go_sem, seval, rdH, rdB]
    try exact LeV.refl _
  · rw [fnV_err he]
    simp (disch := first | exact dd | fail) only [go_sem, seval, rdH, rdB]
    exact LeV_gp _
/-- The document's pairs and boxes. -/
def gprD (x : (Txt × Txt) × Rs) : D := .tup [.agg [.str x.1.1, .str x.1.2], .int .i64 x.2.1, .int .i64 x.2.2]
theorem r2_GetPair {b : Txt} {l : Lm} {a : Nat} (hb : b.length < 100000000) (hl : l.ok) (ha : a ≤ b.length) : C E 71 [.str b, .int .i64 a, lmD l] (gprD (fnV ([], []) (prF b l.b (a, 0)))) := by
  refine CG_intro Tryz.func71 rfl (by kernel_rfl) rfl (by kernel_rfl) (by kernel_rfl) rfl ?_
  have g1 := r2_GetRat (b := b) (a := (a : Int)) (by omega) hl.1 hb
  have t1 := ref_RatText (qget_qb (b := b) (a := (a : Int)) (bits := l.b) hb)
  have o1 := (qget_rs b (a : Int) l.b).1
  have hp : prF b l.b (a, 0) = prF b l.b (a, 0) := rfl
  conv at hp => rhs; unfold prF
  have hr : raF b l.b (a, 0) = (decQ (qget b (a : Int) l.b).1, (qget b (a : Int) l.b).2) := by unfold raF; rw [if_neg (by simp)]
  rw [hr] at hp
  generalize prF b l.b (a, 0) = res at *
  generalize qget b (a : Int) l.b = x at *
  obtain ⟨q1, p1, e1⟩ := x
  obtain ⟨o1, o2⟩ := o1
  simp only at o1 o2 hp t1
  unfold rqgD at g1
  unfold gprD
  by_cases he : e1 = 0
  case neg =>
    rw [raF_err (b := b) (bits := l.b) (s := (p1, e1)) he] at hp
    subst hp
    rw [fnV_err he]
    simp only [he, if_false] at g1
    unfold rr00 at g1
    simp (disch := first | exact dd | fail) only [go_sem, seval, lmD]
    refine cA g1 ?_
    simp (disch := first | exact dd | fail) only [go_sem, seval]
    try exact LeV.refl _
  subst he
  have g2 := r2_GetRat (b := b) (a := (p1 : Int)) (by omega) hl.1 hb
  have t2 := ref_RatText (qget_qb (b := b) (a := (p1 : Int)) (bits := l.b) hb)
  have o3 := (qget_rs b (p1 : Int) l.b).1
  have hr2 : raF b l.b (p1, 0) = (decQ (qget b (p1 : Int) l.b).1, (qget b (p1 : Int) l.b).2) := by unfold raF; rw [if_neg (by simp)]
  rw [hr2] at hp
  generalize qget b (p1 : Int) l.b = x at *
  obtain ⟨q2, p2, e2⟩ := x
  obtain ⟨o3, o4⟩ := o3
  simp only at o3 o4 hp t2
  unfold rqgD at g2
  simp only [if_true] at g1
  subst hp
  simp (disch := first | exact dd | fail) only [go_sem, seval, lmD]
  refine cA g1 ?_
  simp (disch := first | exact dd | fail) only [go_sem, seval]
  by_cases he : e2 = 0
  case neg =>
    rw [fnV_err he]
    simp only [he, if_false] at g2
    unfold rr00 at g2
    refine cA g2 ?_
    simp (disch := first | exact dd | fail) only [go_sem, seval]
    try exact LeV.refl _
  subst he
  rw [fnV_ok rfl]
  simp only [if_true] at g2
  refine cA g2 ?_
  simp (disch := first | exact dd | fail) only [go_sem, seval]
  refine cL t1 ?_
  simp (disch := first | exact dd | fail) only [go_sem, seval]
  refine cL t2 ?_
  simp (disch := first | exact dd | fail) only [go_sem, seval]
  try exact LeV.refl _
theorem r2_GetBox {b : Txt} {l : Lm} {a n : Int} (hb : b.length < 100000000) (hl : l.ok) (ha : I6 a) (hn : I6 n) : C E 28 [.str b, .int .i64 a, .int .i64 n, lmD l] (gbD (gbV b l a n)) := by
  refine CG_intro Tryz.func28 rfl (by kernel_rfl) rfl (by kernel_rfl) (by kernel_rfl) rfl ?_
  unfold gbD
  unfold I6 at ha hn
  by_cases q : n < 1
  · have hv : gbV b l a n = ([], (0, 1)) := by unfold gbV; rw [if_pos (by omega)]
    rw [hv]
    simp (disch := first | exact dd | fail) only [go_sem, seval, lmD]
    exact LeV_gb _
  by_cases q2 : 3 < n
  · have hv : gbV b l a n = ([], (0, 1)) := by unfold gbV; rw [if_pos (by omega)]
    rw [hv]
    simp (disch := first | exact dd | fail) only [go_sem, seval, lmD]
    exact LeV_gb _
  by_cases q3 : a < 0
  · have hv : gbV b l a n = ([], (0, 1)) := by unfold gbV; rw [if_pos (by omega)]
    rw [hv]
    simp (disch := first | exact dd | fail) only [go_sem, seval, lmD]
    exact LeV_gb _
  by_cases q4 : (b.length : Int) < a
  · have hv : gbV b l a n = ([], (0, 1)) := by unfold gbV; rw [if_pos (by omega)]
    rw [hv]
    simp (disch := first | exact dd | fail) only [go_sem, seval, lmD]
    exact LeV_gb _
  have hv : gbV b l a n = fnV [] (bxF b l.b n.toNat (a.toNat, 0)) := by unfold gbV; rw [if_neg (by omega)]
  rw [hv]
  obtain ⟨a, rfl⟩ := Int.eq_ofNat_of_zero_le (show 0 ≤ a by omega)
  obtain ⟨n, rfl⟩ := Int.eq_ofNat_of_zero_le (show 0 ≤ n by omega)
  simp only [Int.ofNat_eq_natCast, Int.toNat_natCast] at *
  have hF : bxF b l.b n (a, 0) = frm (fun l => decide ((boxR l).2 = 0)) (bxG b l.b n [] (a, 0)) := rfl
  generalize bxF b l.b n (a, 0) = res at *
  simp (disch := first | exact dd | fail) only [go_sem, seval, lmD]
  refine AL.ofN 11 true 2 (fun _ => .unk) (fun x : List (Txt × Txt) × Nat => bxG b l.b n [] (a, 0) = bxG b l.b (n - x.1.length) x.1 (x.2, 0) ∧ x.1.length ≤ n ∧ x.2 ≤ b.length ∧ ∀ p ∈ x.1, shT p.1 ∧ shT p.2) (fun x => n - x.1.length)
    (fun x => [(0, .str b), (1, .int .i64 x.2), (2, .int .i64 n), (7, .ad 0 0), (11, .sl 1 x.1.length 0 x.1.length), (12, .int .i64 x.1.length)])
    (fun x => [(0, .var true 5 (lmD l)), (1, .row false x.1.length true 2 x.1.length (txR x.1))]) ([], a) (by simp (disch := first | exact dd | fail) only [go_sem, seval]) ⟨rfl, Nat.zero_le _, by show a ≤ _; omega, fun p hp => nomatch hp⟩ ?_ ?_ ?_ ?_
  · simp (disch := first | exact dd | fail) only [go_sem, seval, List.length_nil]
    try exact LeV.refl _
  · simp (disch := first | exact dd | fail) only [go_sem, seval, lmD, List.length_nil]
    exact fun j hj => absurd hj (by omega)
  · intro x _; simp (disch := first | exact dd | fail) only [go_sem, seval]
  rintro ⟨acc, p⟩ ⟨h1, h2, h3, h4⟩
  simp only at h1 h2 h3 h4
  by_cases hk : acc.length = n
  · have hst : bxG b l.b n [] (a, 0) = (acc, (p, 0)) := by rw [h1, hk, Nat.sub_self]; rfl
    rw [hst] at hF
    have hP := ref_BoxParse (l := acc) (by omega) h4
    by_cases ho : (boxR acc).2 = 0
    · rw [frm_ok (by simp [ho])] at hF
      subst hF
      rw [fnV_ok rfl]
      simp only [rboxD, if_pos ho] at hP
      simp (disch := first | exact dd | fail) only [go_sem, seval]
      refine callC hP ?_ rfl ?_
      · simp (disch := first | exact dd | fail) only [go_sem, seval]
        try exact LesV.refl _
      simp (disch := first | exact dd | fail) only [go_sem, seval, ho]
      try exact LeV.refl _
    · rw [frm_no rfl (by simp [ho])] at hF
      subst hF
      rw [fnV_err (by simp)]
      simp only [rboxD, if_neg ho] at hP
      simp (disch := first | exact dd | fail) only [go_sem, seval]
      refine callC hP ?_ rfl ?_
      · simp (disch := first | exact dd | fail) only [go_sem, seval]
        try exact LesV.refl _
      simp (disch := first | exact dd | fail) only [go_sem, seval, ho]
      exact LeV_gb _
  have hg := r2_GetPair (l := l) (a := p) hb hl h3
  have hg2 := prF_rs (bits := l.b) (s := (p, 0)) (b := b) ⟨h3, by show 0 < 18; omega⟩
  have hg3 := prF_sh (bits := l.b) (s := (p, 0)) hb
  have hnx : bxG b l.b (n - acc.length) acc (p, 0) = bxG b l.b (n - acc.length - 1) (acc ++ [(prF b l.b (p, 0)).1]) (prF b l.b (p, 0)).2 := by
    conv => lhs; rw [show n - acc.length = (n - acc.length - 1) + 1 by omega, bxG, if_neg (by simp)]
  have hap := fun (j : Nat) => txR_app (acc := acc) (p := (prF b l.b (p, 0)).1) (j := j)
  have hal : ∀ p : Txt × Txt, (acc ++ [p]).length = acc.length + 1 := fun p => by rw [List.length_append, List.length_singleton]
  generalize prF b l.b (p, 0) = x at *
  obtain ⟨⟨t1, t2⟩, p2, e2⟩ := x
  obtain ⟨hg4, hg5⟩ := hg2
  simp only at hg3 hg4 hg5 hnx hap
  unfold gprD at hg
  simp (disch := first | exact dd | fail) only [go_sem, seval, lmD]
  by_cases he : e2 = 0
  case neg =>
    rw [bxG_err (s := (p2, e2)) he] at hnx
    rw [h1, hnx, frm_err he] at hF
    subst hF
    rw [fnV_err he] at hg ⊢
    refine cA hg ?_
    simp (disch := first | exact dd | fail) only [go_sem, seval]
    exact LeV_gb _
  subst he
  rw [fnV_ok rfl] at hg
  refine cA hg ?_
  clear hF
  simp (disch := first | exact dd | fail) only [go_sem, seval]
  refine ⟨.inl trivial, .inr trivial, by omega, by omega, ?_⟩
  refine ⟨(acc ++ [(t1, t2)], p2), ⟨by rw [h1, hnx, hal, Nat.sub_sub], by show (acc ++ [(t1, t2)]).length ≤ n; rw [hal]; omega, hg4, ?_⟩, by show n - (acc ++ [(t1, t2)]).length < n - acc.length; rw [hal]; omega, ?_, ?_⟩
  · intro p hp
    rcases List.mem_append.1 hp with hp | hp
    · exact h4 p hp
    · obtain rfl := List.mem_singleton.1 hp
      exact hg3
  · simp (disch := first | exact dd | fail) only [go_sem, seval, hal]
    try exact LeV.refl _
  · simp (disch := first | exact dd | fail) only [go_sem, seval, lmD, hal]
    try exact fun j hj => hap j (by omega)
theorem u8_self (x : UInt8) : UInt8.ofNat x.toNat = x := by simp
theorem byF_at {b : Txt} {p : Nat} (h : p < b.length) : byF b (p, 0) = ((b.getD p 0).toNat, (p + 1, 0)) := by
  unfold byF
  rw [if_neg (by simp), if_neg (by show ¬ b.length ≤ p; omega)]
theorem byF_end {b : Txt} {p : Nat} (h : b.length ≤ p) : byF b (p, 0) = (0, (p, 4)) := by
  unfold byF
  rw [if_neg (by simp), if_pos h]
theorem tmF_short {b : Txt} {bits : Int} {p : Nat} (h : b.length < p + 3) : (tmF b bits (p, 0)).2.2 = 4 := by
  unfold tmF
  simp only
  by_cases h1 : b.length ≤ p
  · rw [byF_end h1, byF_err (s := (p, 4)) (by simp), byF_err (s := (p, 4)) (by simp), raF_err (s := (p, 4)) (by simp)]
  rw [byF_at (by omega)]
  simp only
  by_cases h2 : b.length ≤ p + 1
  · rw [byF_end h2, byF_err (s := (p + 1, 4)) (by simp), raF_err (s := (p + 1, 4)) (by simp)]
  rw [byF_at (by omega)]
  simp only
  rw [byF_end (p := p + 1 + 1) (by omega), raF_err (s := (p + 1 + 1, 4)) (by simp)]
theorem tmF_long {b : Txt} {bits : Int} {p : Nat} (h : p + 3 ≤ b.length) : tmF b bits (p, 0) = (((b.getD p 0, b.getD (p + 1) 0, b.getD (p + 2) 0), decQ (qget b ((p + 3 : Nat) : Int) bits).1), (qget b ((p + 3 : Nat) : Int) bits).2) := by
  have hr : raF b bits (p + 3, 0) = (decQ (qget b ((p + 3 : Nat) : Int) bits).1, (qget b ((p + 3 : Nat) : Int) bits).2) := by unfold raF; rw [if_neg (by simp)]
  unfold tmF
  rw [byF_at (b := b) (p := p) (by omega)]
  simp only
  rw [byF_at (b := b) (p := p + 1) (by omega)]
  simp only
  rw [byF_at (b := b) (p := p + 1 + 1) (by omega)]
  simp only
  rw [hr, u8_self, u8_self, u8_self]
theorem r2_GetPoly {b : Txt} {l : Lm} {a : Int} (hb : b.length < 100000) (hl : l.ok) (ha : I6 a) : C E 34 [.str b, .int .i64 a, lmD l] (gpD (gpV b l a)) := by
  refine CG_intro Tryz.func34 rfl (by kernel_rfl) rfl (by kernel_rfl) (by kernel_rfl) rfl ?_
  unfold gpD
  unfold I6 at ha
  have hG := r2_Get b a ha (by omega)
  by_cases hA : a < 0 ∨ (b.length : Int) < a
  · have hv : gpV b l a = ([], (0, 1)) := by unfold gpV; rw [if_pos hA]
    have he : vget b a = (0, 0, 1) := by unfold vget; rw [if_pos hA]
    rw [he] at hG
    unfold vgD at hG
    rw [hv]
    simp (disch := first | exact dd | fail) only [go_sem, seval, lmD]
    refine cA hG ?_
    simp (disch := first | exact dd | fail) only [go_sem, seval]
    exact LeV_gp _
  have hv : gpV b l a = fnV [] (plF b l.t l.b (a.toNat, 0)) := by unfold gpV; rw [if_neg hA]
  rw [hv]
  obtain ⟨a, rfl⟩ := Int.eq_ofNat_of_zero_le (show 0 ≤ a by omega)
  simp only [Int.ofNat_eq_natCast, Int.toNat_natCast] at *
  have hF : plF b l.t l.b (a, 0) = frm plOk (plG b l.b (vget b a).1 [] (plS b l.t a)) := by unfold plF; rw [if_neg (by simp)]
  generalize plF b l.t l.b (a, 0) = res at *
  have hlt := vget_lt b a
  have hSe : plS b l.t a = plS b l.t a := rfl
  conv at hSe => rhs; unfold plS
  have hvr : (vget b a).2.1 ≤ b.length ∧ (vget b a).2.2 < 18 := by
    by_cases h : (vget b a).2.2 = 0
    · have := vget_end h; omega
    · have := vget_err h; omega
  generalize plS b l.t a = s1 at *
  generalize vget b a = x at *
  obtain ⟨N, p1, e1⟩ := x
  simp only at hF hSe hlt hvr
  unfold vgD at hG
  have hlt2 := hl.2
  unfold I6 at hlt2
  simp (disch := first | exact dd | fail) only [go_sem, seval, lmD]
  refine cA hG ?_
  by_cases h1 : e1 = 0
  case neg =>
    rw [if_neg (by simp [h1])] at hSe
    subst hSe
    rw [plG_err h1, frm_err h1] at hF
    subst hF
    rw [fnV_err h1]
    simp (disch := first | exact dd | fail) only [go_sem, seval]
    exact LeV_gp _
  subst h1
  by_cases h2 : max l.t 0 < (N : Int)
  case pos =>
    rw [if_pos ⟨rfl, h2⟩] at hSe
    subst hSe
    rw [plG_err (by simp), frm_err (by simp)] at hF
    subst hF
    rw [fnV_err (by simp)]
    simp (disch := first | exact dd | fail) only [go_sem, seval]
    exact LeV_gp _
  rw [if_neg (by simp [h2])] at hSe
  subst hSe
  simp (disch := first | exact dd | fail) only [go_sem, seval]
  refine AL.ofN 12 true 4 (fun _ => .unk) (fun x : List Tm × Nat => PlP b l N (p1, 0) (x.1, (x.2, 0))) (fun x => N - x.1.length)
    (fun x => [(0, .str b), (5, .ad 0 0), (9, .int .u64 N), (10, .int .i64 x.2), (12, .sl 1 x.1.length 0 x.1.length), (13, .int .u64 x.1.length)])
    (fun x => [(0, .var true 5 (lmD l)), (1, .row false x.1.length true 4 x.1.length (tmR x.1))]) ([], p1) (by simp (disch := first | exact dd | fail) only [go_sem, seval]) ⟨rfl, Nat.zero_le _, ⟨hvr.1, by show 0 < 18; omega⟩, (fun p hp => nomatch hp), Nat.zero_le _, fun _ => Nat.zero_le _⟩ ?_ ?_ ?_ ?_
  · simp (disch := first | exact dd | fail) only [go_sem, seval, List.length_nil]
    try exact LeV.refl _
  · simp (disch := first | exact dd | fail) only [go_sem, seval, lmD, List.length_nil]
    exact fun j hj => absurd hj (by omega)
  · intro x _; simp (disch := first | exact dd | fail) only [go_sem, seval]
  rintro ⟨acc, p⟩ hP
  have h3 := hP.2.2.1
  have h5 := hP.2.2.2.2.1
  have hN := hP.2.1
  have hfin := hP.fin
  have hnx := hP.next (by omega) rfl
  have hPP := r2_polyOk (l := acc) (by simp only at h5; omega) hP.2.2.2.1
  obtain ⟨r1, r2⟩ := h3
  simp only at r1 r2 h5 hN hfin hnx hP
  by_cases hk : acc.length = N
  case pos =>
    have hst := hfin (.inl hk)
    rw [hst] at hF
    clear hfin hnx hP
    unfold poD at hPP
    cases ho : plOk acc with
    | true =>
      rw [frm_ok ho] at hF
      subst hF
      rw [fnV_ok rfl]
      have ho2 : okPl acc = true := by unfold plOk at ho; simp at ho; exact ho.1
      rw [ho, if_pos ho2] at hPP
      simp (disch := first | exact dd | fail) only [go_sem, seval]
      refine callC hPP ?_ rfl ?_
      · simp (disch := first | exact dd | fail) only [go_sem, seval]
        try exact LesV.refl _
      simp (disch := first | exact dd | fail) only [go_sem, seval]
      try exact LeV.refl _
    | false =>
      rw [frm_no rfl ho] at hF
      subst hF
      rw [fnV_err (by simp)]
      rw [ho] at hPP
      cases ho2 : okPl acc with
      | true =>
        rw [if_pos ho2] at hPP
        simp (disch := first | exact dd | fail) only [go_sem, seval]
        refine callC hPP ?_ rfl ?_
        · simp (disch := first | exact dd | fail) only [go_sem, seval]
          try exact LesV.refl _
        simp (disch := first | exact dd | fail) only [go_sem, seval]
        exact LeV_gp _
      | false =>
        rw [if_neg (by rw [ho2]; simp)] at hPP
        simp (disch := first | exact dd | fail) only [go_sem, seval]
        refine callC hPP ?_ rfl ?_
        · simp (disch := first | exact dd | fail) only [go_sem, seval]
          try exact LesV.refl _
        simp (disch := first | exact dd | fail) only [go_sem, seval]
        exact LeV_gp _
  have hnx := hnx (by omega)
  have hstop : (tmF b l.b (p, 0)).2.2 ≠ 0 → fnV [] res = ([], (0, (tmF b l.b (p, 0)).2.2)) := fun h => by
    have := hnx.fin (.inr h)
    rw [hF, this, frm_err (x := (acc ++ [(tmF b l.b (p, 0)).1], (tmF b l.b (p, 0)).2)) h]
    exact fnV_err (x := (acc ++ [(tmF b l.b (p, 0)).1], (tmF b l.b (p, 0)).2)) h
  clear hfin hPP
  by_cases hs : b.length < p + 3
  case pos =>
    have ht := tmF_short (bits := l.b) hs
    rw [hstop (by rw [ht]; simp), ht]
    clear hnx hF hstop hP
    simp (disch := first | exact dd | fail) only [go_sem, seval]
    exact LeV_gp _
  have ht := tmF_long (bits := l.b) (p := p) (b := b) (by omega)
  rw [ht] at hnx hstop
  have hap := fun (a b c : UInt8) (t : Txt) (j : Nat) => tmR_app (acc := acc) (a := a) (b := b) (c := c) (t := t) (j := j)
  have hal : ∀ p : Tm, (acc ++ [p]).length = acc.length + 1 := fun p => by rw [List.length_append, List.length_singleton]
  have g1 := r2_GetRat (b := b) (a := ((p + 3 : Nat) : Int)) (bits := l.b) (by omega) hl.1 (by omega)
  have t1 := ref_RatText (qget_qb (b := b) (a := ((p + 3 : Nat) : Int)) (bits := l.b) (by omega))
  have o1 := (qget_rs b ((p + 3 : Nat) : Int) l.b).1
  generalize qget b ((p + 3 : Nat) : Int) l.b = x at *
  obtain ⟨q, p2, e2⟩ := x
  obtain ⟨o1, o2⟩ := o1
  simp only at hnx hstop t1 o1 o2
  have ep : ((p + 3 : Nat) : Int) = (p : Int) + 3 := by omega
  rw [ep] at g1
  unfold rqgD at g1
  by_cases he : e2 = 0
  case neg =>
    rw [hstop he]
    clear hnx hF hstop hP
    simp only [he, if_false] at g1
    unfold rr00 at g1
    simp (disch := first | exact dd | fail) only [go_sem, seval, lmD]
    refine cA g1 ?_
    simp (disch := first | exact dd | fail) only [go_sem, seval]
    exact LeV_gp _
  subst he
  simp only [if_true] at g1
  clear hstop hF hP ht
  have i1 : ((p : Int)).toNat = p := by omega
  have i2 : ((p : Int) + 1).toNat = p + 1 := by omega
  have i3 : ((p : Int) + 2).toNat = p + 2 := by omega
  have hj := hap (b.getD p 0) (b.getD (p + 1) 0) (b.getD (p + 2) 0) (decQ q)
  simp (disch := first | exact dd | fail) only [go_sem, seval, lmD]
  refine cA g1 ?_
  simp (disch := first | exact dd | fail) only [go_sem, seval, i2, i3]
  refine cL t1 ?_
  simp (disch := first | exact dd | fail) only [go_sem, seval]
  refine ⟨.inl trivial, .inr trivial, by omega, by omega, ?_⟩
  refine ⟨(acc ++ [((b.getD p 0, b.getD (p + 1) 0, b.getD (p + 2) 0), decQ q)], p2), hnx, by show N - (acc ++ [_]).length < N - acc.length; rw [hal]; omega, ?_, ?_⟩
  · simp (disch := first | exact dd | fail) only [go_sem, seval, hal]
    try exact LeV.refl _
  · simp (disch := first | exact dd | fail) only [go_sem, seval, lmD, hal]
    try exact fun j h => hj j (by omega)
def termB (e : Nat) (t : Tm) : Bool := decide (t.2.length ≤ 30) && decide (t.1.1.toNat ≤ e) && decide (t.1.2.1.toNat ≤ e) && decide (t.1.2.2.toNat ≤ e)
def termsB (l : List Tm) (m e : Nat) : Bool := decide (l.length ≤ m) && l.all (termB e)
theorem book_Terms {l : List Tm} {m e : Nat} (hm : m < 1000) (he : e < 1000) : C E 30 [tmD l, .int .i64 m, .int .i64 e] (.bool (termsB l m e)) := by
  refine CG_intro Tryz.func30 rfl (by kernel_rfl) rfl (by kernel_rfl) (by kernel_rfl) rfl ?_
  unfold termsB
  by_cases hlen : l.length ≤ m
  case neg =>
    rw [decide_eq_false hlen]
    simp (disch := first | exact dd | fail) only [go_sem, seval, tmD]
  rw [decide_eq_true hlen, Bool.true_and]
  have hl : l.length < 1073741824 := by omega
  simp (disch := first | exact dd | fail) only [go_sem, seval, tmD]
  refine AL.of (fun i : Nat => i ≤ l.length ∧ ∀ j, j < i → termB e (l.getD j tm0) = true) (fun i => l.length - i) (fun i => [(0, tmD l), (2, .int .i64 e), (7, .int .i64 i)]) (fun _ => []) 0 ⟨Nat.zero_le _, fun j hj => absurd hj (by omega)⟩ ?_ ?_ ?_ ?_
  · simp (disch := first | exact dd | fail) only [go_sem, seval, tmD]
    try exact LeV.refl _
  · simp (disch := first | exact dd | fail) only [go_sem, seval]
  · intro x _; simp (disch := first | exact dd | fail) only [go_sem, seval]
  rintro i ⟨hi, hok⟩
  by_cases hil : i = l.length
  · have hyes : l.all (termB e) = true := by
      rw [List.all_eq_true]
      intro t ht
      obtain ⟨j, hj, rfl⟩ := List.mem_iff_getElem.1 ht
      have := hok j (by omega)
      rw [List.getD_eq_getElem?_getD, List.getElem?_eq_getElem hj] at this
      exact this
    simp (disch := first | exact dd | fail) only [go_sem, seval, tmD, hil, hyes]
  · have hp : tmR l i = tmC (l.getD i tm0) := rfl
    have hno : termB e (l.getD i tm0) = false → l.all (termB e) = false := fun h => by
      rw [List.all_eq_false]
      exact ⟨_, getD_mem' l i tm0 (by omega), by rw [h]; simp⟩
    have hyes : termB e (l.getD i tm0) = true → i + 1 ≤ l.length ∧ ∀ j, j < i + 1 → termB e (l.getD j tm0) = true := fun h => ⟨by omega, fun j hj => by
      rcases Nat.lt_or_ge j i with h2 | h2
      · exact hok j h2
      · rw [show j = i by omega]; exact h⟩
    generalize l.getD i tm0 = t at *
    obtain ⟨⟨a, b, c⟩, s⟩ := t
    have a1 := UInt8.toNat_lt a
    have b1 := UInt8.toNat_lt b
    have c1 := UInt8.toNat_lt c
    have htb : termB e ((a, b, c), s) = (decide (s.length ≤ 30) && decide (a.toNat ≤ e) && decide (b.toNat ≤ e) && decide (c.toNat ≤ e)) := rfl
    by_cases h0 : s.length ≤ 30
    case neg =>
      rw [hno (by rw [htb]; simp [h0])]
      simp (disch := first | exact dd | fail) only [go_sem, seval, tmD, hp, tmC]
    by_cases ha : a.toNat ≤ e
    case neg =>
      rw [hno (by rw [htb]; simp [ha])]
      simp (disch := first | exact dd | fail) only [go_sem, seval, tmD, hp, tmC]
    by_cases hb : b.toNat ≤ e
    case neg =>
      rw [hno (by rw [htb]; simp [hb])]
      simp (disch := first | exact dd | fail) only [go_sem, seval, tmD, hp, tmC]
    by_cases hc : c.toNat ≤ e
    case neg =>
      rw [hno (by rw [htb]; simp [hc])]
      simp (disch := first | exact dd | fail) only [go_sem, seval, tmD, hp, tmC]
    simp (disch := first | exact dd | fail) only [go_sem, seval, tmD, hp, tmC]
    refine ⟨i + 1, hyes (by rw [htb]; simp [h0, ha, hb, hc]), by show l.length - (i + 1) < l.length - i; omega, ?_, ?_⟩
    · simp (disch := first | exact dd | fail) only [go_sem, seval, tmD]
      try exact LeV.refl _
    · simp (disch := first | exact dd | fail) only [go_sem, seval]
theorem book_SameTerms (l : List Tm) (hl : l.length < 1073741824) : C E 35 [tmD l, tmD l] (.bool true) := by
  refine CG_intro Tryz.func35 rfl (by kernel_rfl) rfl (by kernel_rfl) (by kernel_rfl) rfl ?_
  simp (disch := first | exact dd | fail) only [go_sem, seval, tmD]
  refine AL.of (fun i : Nat => i ≤ l.length) (fun i => l.length - i) (fun i => [(0, tmD l), (1, tmD l), (5, .int .i64 i)]) (fun _ => []) 0 (Nat.zero_le _) ?_ ?_ ?_ ?_
  · simp (disch := first | exact dd | fail) only [go_sem, seval, tmD]
    try exact LeV.refl _
  · simp (disch := first | exact dd | fail) only [go_sem, seval]
  · intro x _; simp (disch := first | exact dd | fail) only [go_sem, seval]
  intro i hi
  by_cases hil : i = l.length
  · subst hil
    simp (disch := first | exact dd | fail) only [go_sem, seval, tmD]
  · have hil' : i < l.length := by omega
    have hp : tmR l i = tmC (l.getD i tm0) := rfl
    generalize l.getD i tm0 = t at *
    simp (disch := first | exact dd | fail) only [go_sem, seval, tmD, hp, tmC]
    refine ⟨i + 1, hil', by show l.length - (i + 1) < l.length - i; omega, ?_, ?_⟩
    · simp (disch := first | exact dd | fail) only [go_sem, seval, tmD]
      try exact LeV.refl _
    · simp (disch := first | exact dd | fail) only [go_sem, seval]
section
variable (c : Lm) (h : Hp) (ρ : Nat → Option Nat) (r : Nat → Nat) (l : List Tm)
theorem imp_lmD : imp ρ h (lmD c) = lmD c := Eq.trans rfl rfl
theorem asAgg_lmD : asAgg (lmD c) = some [.int .i64 c.r, .int .i64 c.p, .int .i64 c.b, .int .i64 c.d, .int .i64 c.t] := Eq.trans rfl rfl
end
attribute [go_sem] imp_lmD asAgg_lmD
theorem gbV_rs {b : Txt} {l : Lm} {a n : Int} (hb : b.length < 100000000) : RsOk b (gbV b l a n).2 ∧ (gbV b l a n).1.length ≤ 3 := by
  unfold gbV
  split
  · exact ⟨⟨Nat.zero_le _, by show 1 < 18; omega⟩, Nat.zero_le _⟩
  · rename_i h
    have := bxF_rs (b := b) (bits := l.b) (n := n.toNat) (s := (a.toNat, 0)) ⟨by show a.toNat ≤ _; omega, by show 0 < 18; omega⟩
    unfold fnV
    split
    · exact ⟨this.1, by omega⟩
    · exact ⟨⟨Nat.zero_le _, this.1.2⟩, Nat.zero_le _⟩
theorem gpV_rs {b : Txt} {l : Lm} {a : Int} : RsOk b (gpV b l a).2 ∧ (gpV b l a).1.length ≤ b.length + 1 := by
  unfold gpV
  split
  · exact ⟨⟨Nat.zero_le _, by show 1 < 18; omega⟩, Nat.zero_le _⟩
  · rename_i h
    have := plF_rs (b := b) (T := l.t) (bits := l.b) (s := (a.toNat, 0)) ⟨by show a.toNat ≤ _; omega, by show 0 < 18; omega⟩
    unfold fnV
    split
    · exact this
    · exact ⟨⟨Nat.zero_le _, this.1.2⟩, Nat.zero_le _⟩
theorem law_ClaimBoxes {p : List (Txt × Txt)} {b : Txt} {a n : Int} {l : Lm} (hpt : ∀ q ∈ p, shT q.1 ∧ shT q.2) (hb : b.length < 9223372036854775808) (ha : I6 a) (hn : I6 n) (hl : l.ok) :
    C E 5 [txD p, .str b, .int .i64 a, .int .i64 n, lmD l] (.bool true) := by
  refine CG_intro Tryz.func5 rfl (by kernel_rfl) rfl (by kernel_rfl) (by kernel_rfl) rfl ?_
  have hA := alive19
  have hP := book_Pairs p (m := 8) (by omega)
  simp (disch := first | exact dd | fail) only [go_sem, seval]
  refine cA hA ?_
  by_cases h1 : 1500 < b.length
  · simp (disch := first | exact dd | fail) only [go_sem, seval]
  simp (disch := first | exact dd | fail) only [go_sem, seval]
  refine cA hP ?_
  cases h2 : pairsB p 8 with
  | false => simp (disch := first | exact dd | fail) only [go_sem, seval]
  | true =>
    have h3 : p.length ≤ 8 := by unfold pairsB at h2; simp only [Bool.and_eq_true, decide_eq_true_eq] at h2; exact h2.1
    have c1 := claim_PutBox (l := p) (by omega) hpt
    have c2 := r2_BoxOk (l := p) (by omega) hpt
    have c3 := claim_GetBox (b := b) (l := l) (by omega) hl ha hn
    have c4 := r2_GetBox (b := b) (l := l) (by omega) hl ha hn
    have hr := gbV_rs (b := b) (l := l) (a := a) (n := n) (by omega)
    have c5 := book_SamePairs (gbV b l a n).1 (by omega)
    unfold bxOkD at c1 c2
    unfold gbD at c3 c4
    generalize gbV b l a n = x at *
    obtain ⟨y, u, e⟩ := x
    simp (disch := first | exact dd | fail) only [go_sem, seval]
    refine cA c1 ?_
    simp (disch := first | exact dd | fail) only [go_sem, seval]
    refine cA c2 ?_
    simp (disch := first | exact dd | fail) only [go_sem, seval]
    refine cA c3 ?_
    simp (disch := first | exact dd | fail) only [go_sem, seval]
    refine cA c4 ?_
    simp (disch := first | exact dd | fail) only [go_sem, seval]
    refine cA c5 ?_
    simp (disch := first | exact dd | fail) only [go_sem, seval]
theorem law_ClaimPolys {p : List Tm} {b : Txt} {a : Int} {l : Lm} (hpt : ∀ q ∈ p, shT q.2) (hb : b.length < 9223372036854775808) (ha : I6 a) (hl : l.ok) :
    C E 6 [tmD p, .str b, .int .i64 a, lmD l] (.bool true) := by
  refine CG_intro Tryz.func6 rfl (by kernel_rfl) rfl (by kernel_rfl) (by kernel_rfl) rfl ?_
  have hA := alive19
  have hP := book_Terms (l := p) (m := 20) (e := 255) (by omega) (by omega)
  simp (disch := first | exact dd | fail) only [go_sem, seval]
  refine cA hA ?_
  by_cases h1 : 1500 < b.length
  · simp (disch := first | exact dd | fail) only [go_sem, seval]
  simp (disch := first | exact dd | fail) only [go_sem, seval]
  refine cA hP ?_
  cases h2 : termsB p 20 255 with
  | false => simp (disch := first | exact dd | fail) only [go_sem, seval]
  | true =>
    have h3 : p.length ≤ 20 := by unfold termsB at h2; simp only [Bool.and_eq_true, decide_eq_true_eq] at h2; exact h2.1
    have c1 := claim_PutPoly (l := p) (by omega) hpt
    have c2 := r2_PolyOk (l := p) (by omega) hpt
    have c3 := claim_GetPoly (b := b) (l := l) (by omega) hl ha
    have c4 := r2_GetPoly (b := b) (l := l) (by omega) hl ha
    have hr := gpV_rs (b := b) (l := l) (a := a)
    have c5 := book_SameTerms (gpV b l a).1 (by omega)
    unfold pokD at c1 c2
    unfold gpD at c3 c4
    generalize gpV b l a = x at *
    obtain ⟨y, u, e⟩ := x
    simp (disch := first | exact dd | fail) only [go_sem, seval]
    refine cA c1 ?_
    simp (disch := first | exact dd | fail) only [go_sem, seval]
    refine cA c2 ?_
    simp (disch := first | exact dd | fail) only [go_sem, seval]
    refine cA c3 ?_
    simp (disch := first | exact dd | fail) only [go_sem, seval]
    refine cA c4 ?_
    simp (disch := first | exact dd | fail) only [go_sem, seval]
    refine cA c5 ?_
    simp (disch := first | exact dd | fail) only [go_sem, seval]
abbrev shMono : Sh := .st (.cons (.int .u8) (.cons (.int .u8) (.cons (.int .u8) .nil)))
abbrev shTerm : Sh := .st (.cons shMono (.cons .str .nil))
abbrev shLim : Sh := .st (.cons (.int .i64) (.cons (.int .i64) (.cons (.int .i64) (.cons (.int .i64) (.cons (.int .i64) .nil)))))
abbrev TTerm := (Int × Int × Int × Unit) × List UInt8 × Unit
def toTm (y : TTerm) : Tm := ((UInt8.ofNat y.1.1.toNat, UInt8.ofNat y.1.2.1.toNat, UInt8.ofNat y.1.2.2.1.toNat), y.2.1)
theorem u8_back {n : Int} (h : 0 ≤ n ∧ n ≤ 255) : (((UInt8.ofNat n.toNat).toNat : Nat) : Int) = n := by
  rw [UInt8.toNat_ofNat']; omega
theorem term_d {y : TTerm} (w : Sh.wf shTerm y) : tmC (toTm y) = Sh.d shTerm y := by
  obtain ⟨⟨a, b, c, u⟩, s, v⟩ := y
  have h1 := bounds_u8 (n := a) w.1.1
  have h2 := bounds_u8 (n := b) w.1.2.1
  have h3 := bounds_u8 (n := c) w.1.2.2.1
  unfold tmC toTm
  simp only
  rw [u8_back h1, u8_back h2, u8_back h3]
  rfl
theorem terms_arg (x : Option (List TTerm)) (w : Sh.wf (.slc shTerm) x) : ∃ l : List Tm, LeV (Sh.d (.slc shTerm) x) (tmD l) ∧ (∀ p ∈ l, shT p.2) := by
  cases x with
  | none => exact ⟨[], LeV.nils, fun p hp => by cases hp⟩
  | some l =>
    refine ⟨l.map toTm, ?_, fun p hp => ?_⟩
    · refine LeV.ro (List.length_map toTm).symm fun i hi => Le.of_eq ?_
      have hz : (l[i]? : Option TTerm) = some l[i] := List.getElem?_eq_getElem hi
      have ht : tmR (l.map toTm) i = tmC (toTm l[i]) := by
        rw [tmR, List.getD_eq_getElem?_getD, List.getElem?_map, hz]; rfl
      rw [ht]
      refine Eq.trans ?_ (term_d (w.2 _ (List.getElem_mem hi))).symm
      split
      · rename_i y hy
        have : some y = some l[i] := hy.symm.trans hz
        cases this
        rfl
      · rename_i hy
        have : none = some l[i] := hy.symm.trans hz
        cases this
    · obtain ⟨y, hy, rfl⟩ := List.mem_map.1 hp
      have h := w.2 y hy
      have h1 : y.2.1.length ≤ 9223372036854775807 := h.2.1
      exact Nat.lt_of_le_of_lt h1 (by decide)
def toLm (y : Int × Int × Int × Int × Int × Unit) : Lm := ⟨y.1, y.2.1, y.2.2.1, y.2.2.2.1, y.2.2.2.2.1⟩
theorem lim_arg (y : Int × Int × Int × Int × Int × Unit) (w : Sh.wf shLim y) : LeV (Sh.d shLim y) (lmD (toLm y)) ∧ (toLm y).ok :=
  ⟨LeV.refl _, ⟨bounds_i64 w.2.2.1, bounds_i64 w.2.2.2.2.1⟩⟩
theorem gTab : Tryz.prog.globalNamed "math/bits.deBruijn32tab" = some 0 := by kernel_rfl
theorem gTabType : (Tryz.prog.globals[0]?).map (·.type) = some 279 := by kernel_rfl
def kz : List Int := deBr
def laidDat {H : Type} : List (String × DataW H) := [("math/bits.deBruijn32tab", Rows.laid_math_bits_deBruijn32tab)]
theorem rounds_tab {W : World} (h : laidMetH Tryz.prog laidDat W) : Lib.TabIs Tryz.prog W "math/bits.deBruijn32tab" .u8 kz :=
  Lib.tabIs_of_head (rest := []) gTab gTabType Tryz.underlying279 Tryz.underlying5 (by kernel_rfl) (by kernel_rfl) h
theorem laid_gok {W : World} (h : laidMetH Tryz.prog laidDat W) : GOK E (fun b => b < W.heap.size) W := by
  intro g
  show Rep0 _ W (gv0 g) _
  unfold gv0 gvS gvB
  split
  · rename_i e
    subst e
    have hc := fun i hi => (rounds_tab h).cell gTab i hi
    have hlen : kz.length = 32 := rfl
    simp only [Rep0, deBrD]
    refine ⟨_, 0, .agg ⟨kz.map (Value.int .u8)⟩, kz.map (Value.int .u8), rfl, World.block_lt_of_cell? _ _ (hc 0 (by omega)), by simp [hlen], fun j x hj => ?_, rfl, kz.map (Value.int .u8), rfl, ?_⟩
    · rw [List.getElem?_map, Option.map_eq_some_iff] at hj
      obtain ⟨z, hz, rfl⟩ := hj
      obtain ⟨hlt, hz⟩ := List.getElem?_eq_some_iff.1 hz
      refine ⟨?_, rfl⟩
      rw [Nat.zero_add, hc j hlt, List.getD_eq_getElem?_getD, List.getElem?_eq_getElem hlt, hz]
      rfl
    · unfold kz
      generalize deBr = l
      induction l with
      | nil => simp [Rep0s]
      | cons x l ih =>
        simp only [List.map_cons, Rep0s]
        exact ⟨_, _, rfl, rfl, ih⟩
  · rfl
end Go.Proofs.YtakaojkfipnfcaaGreatDoor.Lv
