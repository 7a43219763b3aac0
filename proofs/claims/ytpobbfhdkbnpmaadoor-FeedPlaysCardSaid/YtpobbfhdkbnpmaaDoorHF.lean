/- The document's feed (law 22's model): its methods. -/
import Derived.Test.YtpobbfhdkbnpmaaDoorHC
set_option linter.unusedVariables false
set_option linter.unusedSimpArgs false
set_option maxRecDepth 100000
set_option maxHeartbeats 4000000
namespace Go.Proofs.YtpobbfhdkbnpmaaDoor.Lv
open Go Go.RowKit

def wl : List D := (H0.l ++ K256).map wD
theorem wl_len : wl.length = 72 := by rw [wl, List.length_map]; rfl
theorem words_wl : words = .agg wl := rfl
theorem wl_take (r : List D) (k : Nat) : (wl ++ r).take (72 + k) = wl ++ r.take k := by
  rw [← wl_len, List.take_length_add_append]
theorem wl_drop (r : List D) (k : Nat) : (wl ++ r).drop (72 + k) = r.drop k := by
  rw [← wl_len, List.drop_length_add_append]
theorem wl_getD' (r : List D) (k : Nat) (d : D) : (wl ++ r).getD (72 + k) d = r.getD k d := by
  rw [List.getD_eq_getElem?_getD, List.getD_eq_getElem?_getD, ← wl_len, List.getElem?_append_right (by omega), Nat.add_sub_cancel_left]
theorem wl_get (r : List D) (k : Nat) : (wl ++ r)[72 + k]? = r[k]? := by
  rw [← wl_len, List.getElem?_append_right (by omega), Nat.add_sub_cancel_left]
theorem wl_t0 (r : List D) : (wl ++ r).take 72 = wl ++ r.take 0 := wl_take r 0
theorem wl_d0 (r : List D) : (wl ++ r).drop 72 = r.drop 0 := wl_drop r 0
theorem wl_g0 (r : List D) (d : D) : (wl ++ r).getD 72 d = r.getD 0 d := wl_getD' r 0 d
theorem wl_t1 (r : List D) : (wl ++ r).take 73 = wl ++ r.take 1 := wl_take r 1
theorem wl_d1 (r : List D) : (wl ++ r).drop 73 = r.drop 1 := wl_drop r 1
theorem wl_g1 (r : List D) (d : D) : (wl ++ r).getD 73 d = r.getD 1 d := wl_getD' r 1 d
theorem wl_t2 (r : List D) : (wl ++ r).take 74 = wl ++ r.take 2 := wl_take r 2
theorem wl_d2 (r : List D) : (wl ++ r).drop 74 = r.drop 2 := wl_drop r 2
theorem wl_g2 (r : List D) (d : D) : (wl ++ r).getD 74 d = r.getD 2 d := wl_getD' r 2 d
theorem wl_t3 (r : List D) : (wl ++ r).take 75 = wl ++ r.take 3 := wl_take r 3
theorem wl_d3 (r : List D) : (wl ++ r).drop 75 = r.drop 3 := wl_drop r 3
theorem wl_g3 (r : List D) (d : D) : (wl ++ r).getD 75 d = r.getD 3 d := wl_getD' r 3 d
theorem wl_t4 (r : List D) : (wl ++ r).take 76 = wl ++ r.take 4 := wl_take r 4
theorem wl_d4 (r : List D) : (wl ++ r).drop 76 = r.drop 4 := wl_drop r 4
theorem wl_g4 (r : List D) (d : D) : (wl ++ r).getD 76 d = r.getD 4 d := wl_getD' r 4 d
theorem wl_t5 (r : List D) : (wl ++ r).take 77 = wl ++ r.take 5 := wl_take r 5
theorem wl_d5 (r : List D) : (wl ++ r).drop 77 = r.drop 5 := wl_drop r 5
theorem wl_g5 (r : List D) (d : D) : (wl ++ r).getD 77 d = r.getD 5 d := wl_getD' r 5 d
theorem wl_t6 (r : List D) : (wl ++ r).take 78 = wl ++ r.take 6 := wl_take r 6
theorem wl_d6 (r : List D) : (wl ++ r).drop 78 = r.drop 6 := wl_drop r 6
theorem wl_g6 (r : List D) (d : D) : (wl ++ r).getD 78 d = r.getD 6 d := wl_getD' r 6 d
theorem wl_t7 (r : List D) : (wl ++ r).take 79 = wl ++ r.take 7 := wl_take r 7
theorem wl_d7 (r : List D) : (wl ++ r).drop 79 = r.drop 7 := wl_drop r 7
theorem wl_assoc (r t : List D) : wl ++ r ++ t = wl ++ (r ++ t) := List.append_assoc _ _ _
attribute [go_sem] wl_assoc wl_len wl_t0 wl_d0 wl_g0 wl_t1 wl_d1 wl_g1 wl_t2 wl_d2 wl_g2 wl_t3 wl_d3 wl_g3 wl_t4 wl_d4 wl_g4 wl_t5 wl_d5 wl_g5 wl_t6 wl_d6 wl_g6 wl_t7 wl_d7
theorem cls_wl : cls wl = true := by kernel_rfl
theorem flats_wl : flats wl = true := by kernel_rfl
/-- The document's feed. -/
structure Md where
  b : List UInt8
  prev : List UInt8
  at_ : Nat
  most : Int
  e : Nat
  wh : Nat
  last : Bool
def Md.D (m : Md) : D := .agg (wl ++ [.str m.b, .str m.prev, .int .i64 m.at_, .int .i64 m.most, .int .i64 m.e, .int .i64 m.wh, .bool m.last])
def Md.H (m : Md) : Hp := [(0, .var true 79 m.D)]
def Md.tail (m : Md) : Md := if m.last = true ∧ m.e = 0 ∧ m.at_ < m.b.length then { m with e := 11, wh := m.at_ } else m
def Md.magic (m : Md) : Md := if m.at_ = 0 ∧ pre Lv.magic m.b = true then { m with at_ := 4 } else m
def Md.push (s : List UInt8) (m : Md) : Md := if m.e = 0 then (if m.last = true then ({ m with b := m.b ++ s } : Md) else ({ m with b := m.b ++ s } : Md).magic).tail else m
def Md.held (m : Md) : Nat := if m.e ≠ 0 ∨ m.last = true then 0 else m.b.length - m.at_
theorem cl_md (m : Md) : cl m.D = true := by
  have : ∀ l l' : List D, cls (l ++ l') = (cls l && cls l') := fun l l' => by
    induction l with
    | nil => rfl
    | cons x l ih => simp only [List.cons_append, cls, ih, Bool.and_assoc]
  rw [Md.D, cl, this, cls_wl]; rfl
theorem exD_md (r : Nat → Nat) (m : Md) : exD r m.D = m.D := cl_ex r _ (cl_md m)
theorem imp_md (ρ : Nat → Option Nat) (h : Hp) (m : Md) : imp ρ h m.D = m.D := cl_imp ρ h _ (cl_md m)
theorem refs_md (ρ : Nat → Option Nat) (m : Md) : refs ρ m.D = [] := cl_refs ρ _ (cl_md m)
theorem exDs_wl (r : Nat → Nat) (l : List D) : exDs r (wl ++ l) = wl ++ exDs r l := by
  have : ∀ l l' : List D, exDs r (l ++ l') = exDs r l ++ exDs r l' := fun l l' => by
    induction l with
    | nil => rfl
    | cons x l ih => simp only [List.cons_append, exDs, ih]
  rw [this, cls_ex r wl cls_wl]
theorem imps_wl (ρ : Nat → Option Nat) (h : Hp) (l : List D) : imps ρ h (wl ++ l) = wl ++ imps ρ h l := by
  have : ∀ l l' : List D, imps ρ h (l ++ l') = imps ρ h l ++ imps ρ h l' := fun l l' => by
    induction l with
    | nil => rfl
    | cons x l ih => simp only [List.cons_append, imps, ih]
  rw [this, cls_imp ρ h wl cls_wl]
theorem refss_wl (ρ : Nat → Option Nat) (l : List D) : refss ρ (wl ++ l) = refss ρ l := by
  have : ∀ l l' : List D, refss ρ (l ++ l') = refss ρ l ++ refss ρ l' := fun l l' => by
    induction l with
    | nil => rfl
    | cons x l ih => simp only [List.cons_append, refss, ih, List.append_assoc]
  rw [this, cls_refs ρ wl cls_wl, List.nil_append]
theorem flats_wl_app (l : List D) : flats (wl ++ l) = flats l := by
  have : ∀ l l' : List D, flats (l ++ l') = (flats l && flats l') := fun l l' => by
    induction l with
    | nil => rfl
    | cons x l ih => simp only [List.cons_append, flats, ih, Bool.and_assoc]
  rw [this, flats_wl, Bool.true_and]
attribute [go_sem] exDs_wl imps_wl refss_wl flats_wl_app
theorem model_tail (m : Md) (h1 : m.b.length < 1099511627776) (h2 : m.at_ < 1099511627776) : CG E 37 [.ad 0 0] m.H (.tup []) m.tail.H := by
  refine CG_intro Tryd.func37 rfl (by kernel_rfl) rfl (by kernel_rfl) (by kernel_rfl) rfl ?_
  generalize hr : m.tail = r
  unfold Md.tail at hr
  obtain ⟨b, prev, at_, most, e, wh, last⟩ := m
  simp only at hr h1 h2
  cases last with
  | false =>
    rw [if_neg (by simp)] at hr
    subst hr
    simp (maxSteps := 3000000) (disch := first | exact trivial | assumption | omega | exact RegOk.mk (by decide +kernel) | exact RegCl.mk (by decide +kernel) | exact RegNo.mk (by kernel_rfl)) only [go_sem, seval, Md.H, Md.D]
  | true =>
    by_cases he : e = 0
    case neg =>
      rw [if_neg (by simp [he])] at hr
      subst hr
      simp (maxSteps := 3000000) (disch := first | exact trivial | assumption | omega | exact RegOk.mk (by decide +kernel) | exact RegCl.mk (by decide +kernel) | exact RegNo.mk (by kernel_rfl)) only [go_sem, seval, Md.H, Md.D]
    subst he
    by_cases hl : at_ < b.length
    · rw [if_pos ⟨rfl, rfl, hl⟩] at hr
      subst hr
      simp (maxSteps := 3000000) (disch := first | exact trivial | assumption | omega | exact RegOk.mk (by decide +kernel) | exact RegCl.mk (by decide +kernel) | exact RegNo.mk (by kernel_rfl)) only [go_sem, seval, Md.H, Md.D]
    · rw [if_neg (by simp; omega)] at hr
      subst hr
      simp (maxSteps := 3000000) (disch := first | exact trivial | assumption | omega | exact RegOk.mk (by decide +kernel) | exact RegCl.mk (by decide +kernel) | exact RegNo.mk (by kernel_rfl)) only [go_sem, seval, Md.H, Md.D]
theorem model_magic (m : Md) (h1 : m.b.length < 1099511627776) : CG E 52 [.ad 0 0] m.H (.tup []) m.magic.H := by
  refine CG_intro Tryd.func52 rfl (by kernel_rfl) rfl (by kernel_rfl) (by kernel_rfl) rfl ?_
  generalize hr : m.magic = r
  unfold Md.magic at hr
  obtain ⟨b, prev, at_, most, e, wh, last⟩ := m
  simp only at hr h1
  by_cases ha : at_ = 0
  case neg =>
    rw [if_neg (by simp [ha])] at hr
    subst hr
    simp (maxSteps := 3000000) (disch := first | exact trivial | assumption | omega | exact RegOk.mk (by decide +kernel) | exact RegCl.mk (by decide +kernel) | exact RegNo.mk (by kernel_rfl)) only [go_sem, seval, Md.H, Md.D]
  subst ha
  by_cases hl : 4 ≤ b.length
  case neg =>
    rw [if_neg (by simp only [pre, true_and]; rw [decide_eq_false (show ¬ magic.length ≤ b.length from hl)]; simp)] at hr
    subst hr
    simp (maxSteps := 3000000) (disch := first | exact trivial | assumption | omega | exact RegOk.mk (by decide +kernel) | exact RegCl.mk (by decide +kernel) | exact RegNo.mk (by kernel_rfl)) only [go_sem, seval, Md.H, Md.D]
  by_cases hm : b.take 4 = magic
  · rw [if_pos ⟨rfl, by simp only [pre]; rw [decide_eq_true (show magic.length ≤ b.length from hl), show magic.length = 4 from rfl, hm]; rfl⟩] at hr
    subst hr
    have hm' : (b.take 4 == [67, 78, 67, 49]) = true := by rw [hm]; rfl
    simp (maxSteps := 3000000) (disch := first | exact trivial | assumption | omega | exact RegOk.mk (by decide +kernel) | exact RegCl.mk (by decide +kernel) | exact RegNo.mk (by kernel_rfl)) only [go_sem, seval, Md.H, Md.D, hm']
  · rw [if_neg (by simp only [pre, true_and]; rw [show magic.length = 4 from rfl]; simp [hm])] at hr
    subst hr
    have hm' : (b.take 4 == [67, 78, 67, 49]) = false := beq_eq_false_iff_ne.2 hm
    simp (maxSteps := 3000000) (disch := first | exact trivial | assumption | omega | exact RegOk.mk (by decide +kernel) | exact RegCl.mk (by decide +kernel) | exact RegNo.mk (by kernel_rfl)) only [go_sem, seval, Md.H, Md.D, hm']
theorem model_held (m : Md) (h1 : m.b.length < 1099511627776) (h2 : m.at_ ≤ m.b.length) : CG E 38 [.ad 0 0] m.H (.int .i64 m.held) m.H := by
  refine CG_intro Tryd.func38 rfl (by kernel_rfl) rfl (by kernel_rfl) (by kernel_rfl) rfl ?_
  generalize hr : m.held = r
  unfold Md.held at hr
  obtain ⟨b, prev, at_, most, e, wh, last⟩ := m
  simp only at hr h1 h2
  by_cases he : e = 0
  case neg =>
    rw [if_pos (.inl he)] at hr
    subst hr
    simp (maxSteps := 3000000) (disch := first | exact trivial | assumption | omega | exact RegOk.mk (by decide +kernel) | exact RegCl.mk (by decide +kernel) | exact RegNo.mk (by kernel_rfl)) only [go_sem, seval, Md.H, Md.D]
  subst he
  cases last with
  | true =>
    rw [if_pos (.inr rfl)] at hr
    subst hr
    simp (maxSteps := 3000000) (disch := first | exact trivial | assumption | omega | exact RegOk.mk (by decide +kernel) | exact RegCl.mk (by decide +kernel) | exact RegNo.mk (by kernel_rfl)) only [go_sem, seval, Md.H, Md.D]
  | false =>
    rw [if_neg (by simp)] at hr
    subst hr
    simp (maxSteps := 3000000) (disch := first | exact trivial | assumption | omega | exact RegOk.mk (by decide +kernel) | exact RegCl.mk (by decide +kernel) | exact RegNo.mk (by kernel_rfl)) only [go_sem, seval, Md.H, Md.D]
    exact LeV.of_eq (by congr 1; omega)
theorem md_magic_b (m : Md) : m.magic.b = m.b ∧ m.magic.at_ ≤ max 4 m.at_ := by
  unfold Md.magic
  split
  · exact ⟨rfl, Nat.le_max_left _ _⟩
  · exact ⟨rfl, Nat.le_max_right _ _⟩
theorem model_push (s : List UInt8) (m : Md) (h1 : m.b.length < 274877906944) (h2 : m.at_ < 274877906944) (h3 : s.length < 274877906944) : CG E 34 [.ad 0 0, .str s] m.H (.tup []) (m.push s).H := by
  refine CG_intro Tryd.func34 rfl (by kernel_rfl) rfl (by kernel_rfl) (by kernel_rfl) rfl ?_
  generalize hr : m.push s = r
  unfold Md.push at hr
  obtain ⟨b, prev, at_, most, e, wh, last⟩ := m
  simp only at hr h1 h2
  by_cases he : e = 0
  case neg =>
    rw [if_neg he] at hr
    subst hr
    simp (maxSteps := 3000000) (disch := first | exact trivial | assumption | omega | exact RegOk.mk (by decide +kernel) | exact RegCl.mk (by decide +kernel) | exact RegNo.mk (by kernel_rfl)) only [go_sem, seval, Md.H, Md.D]
  rw [if_pos he] at hr
  subst he
  have h4 : (b.length + s.length ≤ 9223372036854775807) = True := eq_true (by omega)
  cases last with
  | true =>
    rw [if_pos rfl] at hr
    subst hr
    simp (maxSteps := 3000000) (disch := first | exact trivial | assumption | omega | exact RegOk.mk (by decide +kernel) | exact RegCl.mk (by decide +kernel) | exact RegNo.mk (by kernel_rfl)) only [go_sem, seval, Md.H, Md.D, h4]
    refine callG [0] (model_tail ⟨b ++ s, prev, at_, most, 0, wh, true⟩ (by simp only [List.length_append]; omega) (by simp only; omega)) rfl (by simp (maxSteps := 3000000) (disch := first | exact trivial | assumption | omega | exact RegOk.mk (by decide +kernel) | exact RegCl.mk (by decide +kernel) | exact RegNo.mk (by kernel_rfl)) only [go_sem, seval]) ?_ ?_ ?_
    · simp (maxSteps := 3000000) (disch := first | exact trivial | assumption | omega | exact RegOk.mk (by decide +kernel) | exact RegCl.mk (by decide +kernel) | exact RegNo.mk (by kernel_rfl)) only [go_sem, seval]
    · simp (maxSteps := 3000000) (disch := first | exact trivial | assumption | omega | exact RegOk.mk (by decide +kernel) | exact RegCl.mk (by decide +kernel) | exact RegNo.mk (by kernel_rfl)) only [go_sem, seval, Md.H, Md.D]
    simp (maxSteps := 3000000) (disch := first | exact trivial | assumption | omega | exact RegOk.mk (by decide +kernel) | exact RegCl.mk (by decide +kernel) | exact RegNo.mk (by kernel_rfl)) only [go_sem, seval, Md.H, exD_md]
    rw [imp_md]; exact LeV.refl _
  | false =>
    rw [if_neg (by simp)] at hr
    subst hr
    simp (maxSteps := 3000000) (disch := first | exact trivial | assumption | omega | exact RegOk.mk (by decide +kernel) | exact RegCl.mk (by decide +kernel) | exact RegNo.mk (by kernel_rfl)) only [go_sem, seval, Md.H, Md.D, h4]
    refine callG [0] (model_magic ⟨b ++ s, prev, at_, most, 0, wh, false⟩ (by simp only [List.length_append]; omega)) rfl (by simp (maxSteps := 3000000) (disch := first | exact trivial | assumption | omega | exact RegOk.mk (by decide +kernel) | exact RegCl.mk (by decide +kernel) | exact RegNo.mk (by kernel_rfl)) only [go_sem, seval]) ?_ ?_ ?_
    · simp (maxSteps := 3000000) (disch := first | exact trivial | assumption | omega | exact RegOk.mk (by decide +kernel) | exact RegCl.mk (by decide +kernel) | exact RegNo.mk (by kernel_rfl)) only [go_sem, seval]
    · simp (maxSteps := 3000000) (disch := first | exact trivial | assumption | omega | exact RegOk.mk (by decide +kernel) | exact RegCl.mk (by decide +kernel) | exact RegNo.mk (by kernel_rfl)) only [go_sem, seval, Md.H, Md.D]
    obtain ⟨g1, g2⟩ := md_magic_b ⟨b ++ s, prev, at_, most, 0, wh, false⟩
    simp only at g1 g2
    simp (maxSteps := 3000000) (disch := first | exact trivial | assumption | omega | exact RegOk.mk (by decide +kernel) | exact RegCl.mk (by decide +kernel) | exact RegNo.mk (by kernel_rfl)) only [go_sem, seval, Md.H, exD_md]
    refine callG [0] (model_tail (Md.magic ⟨b ++ s, prev, at_, most, 0, wh, false⟩) (by rw [g1, List.length_append]; omega) (by omega)) rfl (by simp (maxSteps := 3000000) (disch := first | exact trivial | assumption | omega | exact RegOk.mk (by decide +kernel) | exact RegCl.mk (by decide +kernel) | exact RegNo.mk (by kernel_rfl)) only [go_sem, seval]) ?_ ?_ ?_
    · simp (maxSteps := 3000000) (disch := first | exact trivial | assumption | omega | exact RegOk.mk (by decide +kernel) | exact RegCl.mk (by decide +kernel) | exact RegNo.mk (by kernel_rfl)) only [go_sem, seval]
    · simp (maxSteps := 3000000) (disch := first | exact trivial | assumption | omega | exact RegOk.mk (by decide +kernel) | exact RegCl.mk (by decide +kernel) | exact RegNo.mk (by kernel_rfl)) only [go_sem, seval, Md.H, imp_md]
    simp (maxSteps := 3000000) (disch := first | exact trivial | assumption | omega | exact RegOk.mk (by decide +kernel) | exact RegCl.mk (by decide +kernel) | exact RegNo.mk (by kernel_rfl)) only [go_sem, seval, Md.H, exD_md]
    rw [imp_md]; exact LeV.refl _
end Go.Proofs.YtpobbfhdkbnpmaaDoor.Lv
