/- The document's feed: next. -/
import Derived.Test.YtpobbfhdkbnpmaaDoorHF
import Derived.Test.YtpobbfhdkbnpmaaDoorVE
set_option linter.unusedVariables false
set_option linter.unusedSimpArgs false
set_option maxRecDepth 100000
set_option maxHeartbeats 4000000
namespace Go.Proofs.YtpobbfhdkbnpmaaDoor.Lv
open Go Go.RowKit

def Md.dif (m : Md) : Bool := !(m.b.take (min m.b.length 4) == Lv.magic.take (min m.b.length 4))
def Md.next (m : Md) : Md := if m.e ≠ 0 ∨ m.last = true then m else if m.dif = true then { m with e := 5 } else if m.at_ = 0 then m else
  if (segGet m.b m.at_ m.prev m.most).2.2.2 = 4 then m else if (segGet m.b m.at_ m.prev m.most).2.2.2 ≠ 0 then { m with e := (segGet m.b m.at_ m.prev m.most).2.2.2, wh := m.at_ } else
  { m with at_ := (segGet m.b m.at_ m.prev m.most).2.1, prev := (segGet m.b m.at_ m.prev m.most).2.2.1 }
def Md.got (m : Md) : Bool := m.e == 0 && !m.last && !m.dif && !(m.at_ == 0) && (segGet m.b m.at_ m.prev m.most).2.2.2 == 0
def Md.body (m : Md) : List UInt8 := if m.got = true then (segGet m.b m.at_ m.prev m.most).1 else []
def Md.from_ (m : Md) : Nat := if m.got = true then m.at_ else 0
theorem take_eq_of {a b : List UInt8} {k : Nat} (ha : k ≤ a.length) (hb : k ≤ b.length) (h : ∀ i, i < k → a.getD i 0 = b.getD i 0) : a.take k = b.take k := by
  refine List.ext_getElem (by simp; omega) fun i h1 h2 => ?_
  have hi : i < k := by simp at h1; omega
  have := h i hi
  rw [List.getD_eq_getElem?_getD, List.getD_eq_getElem?_getD, List.getElem?_eq_getElem (by omega), List.getElem?_eq_getElem (by omega)] at this
  simpa using this
theorem model_next (m : Md) (h1 : m.b.length < 17179869184) (h2 : m.at_ < 17179869184) (h3 : m.prev.length < 17179869184) (hm : -9223372036854775808 ≤ m.most ∧ m.most ≤ 9223372036854775807) :
    CG E 35 [.ad 0 0] m.H (.tup [.int .i64 m.from_, .str m.body, .bool m.got]) m.next.H := by
  refine CG_intro Tryd.func35 rfl (by kernel_rfl) rfl (by kernel_rfl) (by kernel_rfl) rfl ?_
  obtain ⟨he, he2⟩ := segGet_end m.b m.at_ m.prev m.most
  generalize hr : m.next = r
  generalize hr2 : m.got = g
  generalize hr3 : m.from_ = fr
  generalize hr4 : m.body = bo
  unfold Md.next at hr
  unfold Md.from_ at hr3
  unfold Md.body at hr4
  rw [hr2] at hr3 hr4
  unfold Md.got at hr2
  unfold Md.dif at hr hr2
  obtain ⟨b, prev, at_, most, e, wh, last⟩ := m
  simp only at hr hr2 hr3 hr4 h1 h2 h3 hm he he2
  by_cases hc : e = 0
  case neg =>
    rw [if_pos (.inl hc)] at hr
    have : (e == 0) = false := by simp [hc]
    rw [this, Bool.false_and, Bool.false_and, Bool.false_and, Bool.false_and] at hr2
    subst hr2
    simp only [Bool.false_eq_true, if_false] at hr3 hr4
    subst hr hr3 hr4
    simp (maxSteps := 3000000) (disch := first | exact trivial | assumption | omega | exact RegOk.mk (by decide +kernel) | exact RegCl.mk (by decide +kernel) | exact RegNo.mk (by kernel_rfl)) only [go_sem, seval, Md.H, Md.D]
  subst hc
  cases last with
  | true =>
    rw [if_pos (.inr rfl)] at hr
    rw [Bool.not_true, Bool.and_false, Bool.false_and, Bool.false_and, Bool.false_and] at hr2
    subst hr2
    simp only [Bool.false_eq_true, if_false] at hr3 hr4
    subst hr hr3 hr4
    simp (maxSteps := 3000000) (disch := first | exact trivial | assumption | omega | exact RegOk.mk (by decide +kernel) | exact RegCl.mk (by decide +kernel) | exact RegNo.mk (by kernel_rfl)) only [go_sem, seval, Md.H, Md.D]
  | false =>
  rw [if_neg (by simp)] at hr
  simp (maxSteps := 3000000) (disch := first | exact trivial | assumption | omega | exact RegOk.mk (by decide +kernel) | exact RegCl.mk (by decide +kernel) | exact RegNo.mk (by kernel_rfl)) only [go_sem, seval, Md.H, Md.D]
  refine AL.of (fun i : Nat => i ≤ min b.length 4 ∧ ∀ j, j < i → b.getD j 0 = magic.getD j 0) (fun i => 4 - i) (fun i => [(0, .ad 0 0), (5, .int .i64 i)])
    (fun _ => [(0, .var true 79 (.agg (wl ++ [.str b, .str prev, .int .i64 at_, .int .i64 most, .int .i64 (0 : Nat), .int .i64 wh, .bool false])))]) 0 ⟨by omega, fun j h => by omega⟩ ?_ ?_ ?_ ?_
  · simp (maxSteps := 3000000) (disch := first | exact trivial | assumption | omega | exact RegOk.mk (by decide +kernel) | exact RegCl.mk (by decide +kernel) | exact RegNo.mk (by kernel_rfl)) only [go_sem, seval]
  · simp (maxSteps := 3000000) (disch := first | exact trivial | assumption | omega | exact RegOk.mk (by decide +kernel) | exact RegCl.mk (by decide +kernel) | exact RegNo.mk (by kernel_rfl)) only [go_sem, seval]
  · intro x _; simp (maxSteps := 3000000) (disch := first | exact trivial | assumption | omega | exact RegOk.mk (by decide +kernel) | exact RegCl.mk (by decide +kernel) | exact RegNo.mk (by kernel_rfl)) only [go_sem, seval]
  rintro i ⟨hi, hj⟩
  have hml : magic.length = 4 := rfl
  by_cases hlt : i < min b.length 4
  case pos =>
    by_cases hd : b.getD i 0 = magic.getD i 0
    · have hd' : (((b.getD i 0).toNat : Int) != ((([67, 78, 67, 49] : List UInt8).getD i 0).toNat : Int)) = false := by
        rw [hd]; simp [magic]
      simp (maxSteps := 3000000) (disch := first | exact trivial | assumption | omega | exact RegOk.mk (by decide +kernel) | exact RegCl.mk (by decide +kernel) | exact RegNo.mk (by kernel_rfl)) only [go_sem, seval, hd']
      refine ⟨i + 1, ⟨by omega, fun j h => ?_⟩, by show 4 - (i + 1) < 4 - i; omega, ?_, ?_⟩
      · by_cases hji : j = i
        · subst hji; exact hd
        · exact hj j (by omega)
      · simp (maxSteps := 3000000) (disch := first | exact trivial | assumption | omega | exact RegOk.mk (by decide +kernel) | exact RegCl.mk (by decide +kernel) | exact RegNo.mk (by kernel_rfl)) only [go_sem, seval]
        exact LeV.of_eq (by rw [Int.natCast_succ])
      · simp (maxSteps := 3000000) (disch := first | exact trivial | assumption | omega | exact RegOk.mk (by decide +kernel) | exact RegCl.mk (by decide +kernel) | exact RegNo.mk (by kernel_rfl)) only [go_sem, seval]
    · have hd' : (((b.getD i 0).toNat : Int) != ((([67, 78, 67, 49] : List UInt8).getD i 0).toNat : Int)) = true := by
        rw [bne_iff_ne]
        intro h
        exact hd (UInt8.toNat_inj.1 (Int.ofNat.inj h))
      have hdif : (!(b.take (min b.length 4) == magic.take (min b.length 4))) = true := by
        simp only [Bool.not_eq_true', beq_eq_false_iff_ne]
        intro h
        apply hd
        have := congrArg (fun l => l.getD i 0) h
        simp only [List.getD_eq_getElem?_getD, List.getElem?_take, if_pos hlt] at this
        simpa [List.getD_eq_getElem?_getD] using this
      rw [hdif] at hr hr2
      rw [if_pos rfl] at hr
      rw [Bool.not_true, Bool.and_false, Bool.false_and, Bool.false_and] at hr2
      subst hr2
      simp only [Bool.false_eq_true, if_false] at hr3 hr4
      subst hr hr3 hr4
      simp (maxSteps := 3000000) (disch := first | exact trivial | assumption | omega | exact RegOk.mk (by decide +kernel) | exact RegCl.mk (by decide +kernel) | exact RegNo.mk (by kernel_rfl)) only [go_sem, seval, hd']
  have hi' : i = min b.length 4 := by omega
  have hdif : (!(b.take (min b.length 4) == magic.take (min b.length 4))) = false := by
    rw [take_eq_of (k := min b.length 4) (by omega) (by omega) fun j h => hj j (by omega)]; simp
  rw [hdif] at hr hr2
  rw [if_neg (by simp)] at hr
  have hex : (i : Int) < b.length → 4 ≤ i := by omega
  have hcases : (b.length : Int) ≤ i ∨ 4 ≤ i := by omega
  by_cases ha : at_ = 0
  · rw [if_pos ha] at hr
    have : (at_ == 0) = true := by simp [ha]
    rw [this, Bool.not_true, Bool.and_false, Bool.false_and] at hr2
    subst hr2
    simp only [Bool.false_eq_true, if_false] at hr3 hr4
    subst ha hr hr3 hr4
    by_cases hbl : b.length ≤ i
    · simp (maxSteps := 3000000) (disch := first | exact trivial | assumption | omega | exact RegOk.mk (by decide +kernel) | exact RegCl.mk (by decide +kernel) | exact RegNo.mk (by kernel_rfl)) only [go_sem, seval]
    · simp (maxSteps := 3000000) (disch := first | exact trivial | assumption | omega | exact RegOk.mk (by decide +kernel) | exact RegCl.mk (by decide +kernel) | exact RegNo.mk (by kernel_rfl)) only [go_sem, seval]
  rw [if_neg ha] at hr
  have hseg := r2_SegGet b at_ prev most (by omega) hm h1 h3
  have ha0 : (at_ == 0) = false := by simp [ha]
  rw [ha0] at hr2
  generalize hg : segGet b at_ prev most = x at *
  obtain ⟨body, e, d, c⟩ := x
  simp only at hr hr2 hr3 hr4 he he2
  have h72 : ∀ r : List D, List.take 72 (List.drop 0 (wl ++ r)) = wl := fun r => by
    rw [List.drop_zero, List.take_left' wl_len]
  by_cases hbl : b.length ≤ i
  all_goals
    simp (maxSteps := 3000000) (disch := first | exact trivial | assumption | omega | exact RegOk.mk (by decide +kernel) | exact RegCl.mk (by decide +kernel) | exact RegNo.mk (by kernel_rfl)) only [go_sem, seval]
    refine callCl hseg ?_ rfl ?_
    · simp (maxSteps := 3000000) (disch := first | exact trivial | assumption | omega | exact RegOk.mk (by decide +kernel) | exact RegCl.mk (by decide +kernel) | exact RegNo.mk (by kernel_rfl)) only [go_sem, seval, cls_imp nof _ wl cls_wl, words_wl]
      try exact LesV.refl _
    by_cases h4 : c = 4
    · rw [if_pos h4] at hr
      subst h4 hr
      have : ((0 : Nat) == 0 && !false && !false && !false && ((4 : Nat) == 0)) = false := rfl
      rw [this] at hr2
      subst hr2
      simp only [Bool.false_eq_true, if_false] at hr3 hr4
      subst hr3 hr4
      simp (maxSteps := 3000000) (disch := first | exact trivial | assumption | omega | exact RegOk.mk (by decide +kernel) | exact RegCl.mk (by decide +kernel) | exact RegNo.mk (by kernel_rfl)) only [go_sem, seval, sgD]
    rw [if_neg h4] at hr
    by_cases h0 : c = 0
    case neg =>
      rw [if_pos h0] at hr
      have : ((0 : Nat) == 0 && !false && !false && !false && (c == 0)) = false := by simp [h0]
      rw [this] at hr2
      subst hr2
      simp only [Bool.false_eq_true, if_false] at hr3 hr4
      subst hr3 hr4 hr
      simp (maxSteps := 3000000) (disch := first | exact trivial | assumption | omega | exact RegOk.mk (by decide +kernel) | exact RegCl.mk (by decide +kernel) | exact RegNo.mk (by kernel_rfl)) only [go_sem, seval, sgD]
    rw [if_neg (by simp [h0])] at hr
    subst h0
    have : ((0 : Nat) == 0 && !false && !false && !false && ((0 : Nat) == 0)) = true := rfl
    rw [this] at hr2
    subst hr2
    simp only [if_true] at hr3 hr4
    subst hr3 hr4 hr
    simp (maxSteps := 3000000) (disch := first | exact trivial | assumption | omega | exact RegOk.mk (by decide +kernel) | exact RegCl.mk (by decide +kernel) | exact RegNo.mk (by kernel_rfl)) only [go_sem, seval, sgD]
end Go.Proofs.YtpobbfhdkbnpmaaDoor.Lv
