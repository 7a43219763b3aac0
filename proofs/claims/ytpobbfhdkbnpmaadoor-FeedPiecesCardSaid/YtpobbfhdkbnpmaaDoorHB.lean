/- The feed: Next, Last, Fault, At, Held; of a nil one nothing. -/
import Derived.Test.YtpobbfhdkbnpmaaDoorHA
set_option linter.unusedVariables false
set_option linter.unusedSimpArgs false
set_option maxRecDepth 100000
set_option maxHeartbeats 4000000
namespace Go.Proofs.YtpobbfhdkbnpmaaDoor.Lv
open Go Go.RowKit

def pieceD (k : Nat) (s : List UInt8) : D := .agg [.int .i64 k, .str s]
theorem feed_Next_nil : C E 30 [.nilp] (.tup [pieceD 0 [], .bool false]) := by
  refine CG_intro Tryd.func30 rfl (by kernel_rfl) rfl (by kernel_rfl) (by kernel_rfl) rfl ?_
  simp (maxSteps := 3000000) (disch := first | exact trivial | assumption | omega | exact RegOk.mk (by decide +kernel) | exact RegCl.mk (by decide +kernel) | exact RegNo.mk (by kernel_rfl)) only [go_sem, seval, pieceD]
theorem feed_Last_nil : C E 36 [.nilp] (.tup []) := by
  refine CG_intro Tryd.func36 rfl (by kernel_rfl) rfl (by kernel_rfl) (by kernel_rfl) rfl ?_
  simp (maxSteps := 3000000) (disch := first | exact trivial | assumption | omega | exact RegOk.mk (by decide +kernel) | exact RegCl.mk (by decide +kernel) | exact RegNo.mk (by kernel_rfl)) only [go_sem, seval]
theorem feed_Fault_nil : C E 31 [.nilp] (.tup [.int .i64 0, .int .i64 0]) := by
  refine CG_intro Tryd.func31 rfl (by kernel_rfl) rfl (by kernel_rfl) (by kernel_rfl) rfl ?_
  simp (maxSteps := 3000000) (disch := first | exact trivial | assumption | omega | exact RegOk.mk (by decide +kernel) | exact RegCl.mk (by decide +kernel) | exact RegNo.mk (by kernel_rfl)) only [go_sem, seval]
theorem feed_At_nil : C E 33 [.nilp] (.int .i64 0) := by
  refine CG_intro Tryd.func33 rfl (by kernel_rfl) rfl (by kernel_rfl) (by kernel_rfl) rfl ?_
  simp (maxSteps := 3000000) (disch := first | exact trivial | assumption | omega | exact RegOk.mk (by decide +kernel) | exact RegCl.mk (by decide +kernel) | exact RegNo.mk (by kernel_rfl)) only [go_sem, seval]
theorem feed_Held_nil : C E 32 [.nilp] (.int .i64 0) := by
  refine CG_intro Tryd.func32 rfl (by kernel_rfl) rfl (by kernel_rfl) (by kernel_rfl) rfl ?_
  simp (maxSteps := 3000000) (disch := first | exact trivial | assumption | omega | exact RegOk.mk (by decide +kernel) | exact RegCl.mk (by decide +kernel) | exact RegNo.mk (by kernel_rfl)) only [go_sem, seval]
theorem feed_Fault (f : Fd) : CG E 31 [.ad 0 0] f.H (.tup [.int .i64 f.code, .int .i64 f.wh]) f.H := by
  refine CG_intro Tryd.func31 rfl (by kernel_rfl) rfl (by kernel_rfl) (by kernel_rfl) rfl ?_
  simp (maxSteps := 3000000) (disch := first | exact trivial | assumption | omega | exact RegOk.mk (by decide +kernel) | exact RegCl.mk (by decide +kernel) | exact RegNo.mk (by kernel_rfl)) only [go_sem, seval, Fd.H, Fd.D]
theorem feed_At (f : Fd) : CG E 33 [.ad 0 0] f.H (.int .i64 f.at_) f.H := by
  refine CG_intro Tryd.func33 rfl (by kernel_rfl) rfl (by kernel_rfl) (by kernel_rfl) rfl ?_
  simp (maxSteps := 3000000) (disch := first | exact trivial | assumption | omega | exact RegOk.mk (by decide +kernel) | exact RegCl.mk (by decide +kernel) | exact RegNo.mk (by kernel_rfl)) only [go_sem, seval, Fd.H, Fd.D]
theorem feed_Held (f : Fd) : CG E 32 [.ad 0 0] f.H (.int .i64 f.b.length) f.H := by
  refine CG_intro Tryd.func32 rfl (by kernel_rfl) rfl (by kernel_rfl) (by kernel_rfl) rfl ?_
  simp (maxSteps := 3000000) (disch := first | exact trivial | assumption | omega | exact RegOk.mk (by decide +kernel) | exact RegCl.mk (by decide +kernel) | exact RegNo.mk (by kernel_rfl)) only [go_sem, seval, Fd.H, Fd.D]
theorem feed_Last (f : Fd) : CG E 36 [.ad 0 0] f.H (.tup []) f.end_.H := by
  refine CG_intro Tryd.func36 rfl (by kernel_rfl) rfl (by kernel_rfl) (by kernel_rfl) rfl ?_
  generalize hr : f.end_ = r
  unfold Fd.end_ at hr
  obtain ⟨most, b, at_, begun, last, prev, code, wh⟩ := f
  simp only at hr
  by_cases hc : code = 0
  case neg =>
    rw [if_pos hc] at hr
    subst hr
    simp (maxSteps := 3000000) (disch := first | exact trivial | assumption | omega | exact RegOk.mk (by decide +kernel) | exact RegCl.mk (by decide +kernel) | exact RegNo.mk (by kernel_rfl)) only [go_sem, seval, Fd.H, Fd.D]
  rw [if_neg (by simp [hc])] at hr
  subst hc
  by_cases hs : b = []
  · rw [if_neg (by simp [hs])] at hr
    subst hs hr
    have hs' : (([] : List UInt8) == []) = true := rfl
    simp (maxSteps := 3000000) (disch := first | exact trivial | assumption | omega | exact RegOk.mk (by decide +kernel) | exact RegCl.mk (by decide +kernel) | exact RegNo.mk (by kernel_rfl)) only [go_sem, seval, Fd.H, Fd.D, hs']
  · rw [if_pos hs] at hr
    subst hr
    have hs' : (b == []) = false := by simp [hs]
    simp (maxSteps := 3000000) (disch := first | exact trivial | assumption | omega | exact RegOk.mk (by decide +kernel) | exact RegCl.mk (by decide +kernel) | exact RegNo.mk (by kernel_rfl)) only [go_sem, seval, Fd.H, Fd.D, hs']
    refine callG [0] (feed_fail 11 ⟨most, b, at_, begun, true, prev, 0, wh⟩) rfl (by simp (maxSteps := 3000000) (disch := first | exact trivial | assumption | omega | exact RegOk.mk (by decide +kernel) | exact RegCl.mk (by decide +kernel) | exact RegNo.mk (by kernel_rfl)) only [go_sem, seval]) ?_ ?_ ?_
    · simp (maxSteps := 3000000) (disch := first | exact trivial | assumption | omega | exact RegOk.mk (by decide +kernel) | exact RegCl.mk (by decide +kernel) | exact RegNo.mk (by kernel_rfl)) only [go_sem, seval]
    · simp (maxSteps := 3000000) (disch := first | exact trivial | assumption | omega | exact RegOk.mk (by decide +kernel) | exact RegCl.mk (by decide +kernel) | exact RegNo.mk (by kernel_rfl)) only [go_sem, seval, Fd.H, Fd.D]
    simp (maxSteps := 3000000) (disch := first | exact trivial | assumption | omega | exact RegOk.mk (by decide +kernel) | exact RegCl.mk (by decide +kernel) | exact RegNo.mk (by kernel_rfl)) only [go_sem, seval, Fd.H, Fd.D, Fd.fail]
theorem segGet_end (b : List UInt8) (a : Int) (prev : List UInt8) (most : Int) : (segGet b a prev most).2.1 ≤ b.length ∧ (segGet b a prev most).2.2.2 ≤ 13 := by
  have h6 := (vget_lt b a).2
  unfold segGet
  (repeat' split) <;> simp only <;> omega
theorem feed_Next (f : Fd) (h1 : f.b.length < 17179869184) (h2 : f.at_ < 17179869184) (h3 : f.prev.length < 17179869184) (hm : -9223372036854775808 ≤ f.most ∧ f.most ≤ 9223372036854775807) :
    CG E 30 [.ad 0 0] f.H (.tup [pieceD f.from_ f.body, .bool f.got]) f.next.H := by
  refine CG_intro Tryd.func30 rfl (by kernel_rfl) rfl (by kernel_rfl) (by kernel_rfl) rfl ?_
  obtain ⟨he, he2⟩ := segGet_end f.b 0 f.prev f.most
  generalize hr : f.next = r
  generalize hr2 : f.got = g
  generalize hr3 : f.from_ = fr
  generalize hr4 : f.body = bo
  unfold Fd.next at hr
  unfold Fd.from_ at hr3
  unfold Fd.body at hr4
  rw [hr2] at hr3 hr4
  unfold Fd.got at hr2
  obtain ⟨most, b, at_, begun, last, prev, code, wh⟩ := f
  simp only at hr hr2 hr3 hr4 h1 h2 h3 hm he he2
  by_cases hc : code = 0
  case neg =>
    rw [if_pos hc] at hr
    have : (code == 0) = false := by simp [hc]
    rw [this, Bool.false_and, Bool.false_and] at hr2
    subst hr2
    simp only [Bool.false_eq_true, if_false] at hr3 hr4
    subst hr hr3 hr4
    simp (maxSteps := 3000000) (disch := first | exact trivial | assumption | omega | exact RegOk.mk (by decide +kernel) | exact RegCl.mk (by decide +kernel) | exact RegNo.mk (by kernel_rfl)) only [go_sem, seval, Fd.H, Fd.D, pieceD]
  rw [if_neg (by simp [hc])] at hr
  subst hc
  cases begun with
  | false =>
    rw [if_pos rfl] at hr
    rw [Bool.and_false, Bool.false_and] at hr2
    subst hr2
    simp only [Bool.false_eq_true, if_false] at hr3 hr4
    subst hr3 hr4
    have hmin : ∀ n : Nat, min (n : Int) 4 = ((min n 4 : Nat) : Int) := fun n => by omega
    have h5 : min b.length 4 ≤ b.length := Nat.min_le_left _ _
    have h6 : min b.length 4 ≤ 4 := Nat.min_le_right _ _
    have h4 : magic = [67, 78, 67, 49] := rfl
    have h7 : ∀ n : Nat, ((0 : Int) ≤ ((min n 4 : Nat) : Int)) = True := fun n => eq_true (by omega)
    by_cases hd : b.take (min b.length 4) = magic.take (min b.length 4)
    · rw [if_neg (by simp [hd])] at hr
      subst hr
      have hd' : (!(b.take (min b.length 4) == List.take (min b.length 4) [67, 78, 67, 49])) = false := by
        rw [← h4, hd]; simp
      generalize hk : min b.length 4 = k at *
      simp (maxSteps := 3000000) (disch := first | exact trivial | assumption | omega | exact RegOk.mk (by decide +kernel) | exact RegCl.mk (by decide +kernel) | exact RegNo.mk (by kernel_rfl)) only [go_sem, seval, Fd.H, Fd.D, pieceD, hmin, hk, hd']
    · rw [if_pos hd] at hr
      subst hr
      have hd' : (!(b.take (min b.length 4) == List.take (min b.length 4) [67, 78, 67, 49])) = true := by
        rw [← h4]; simp [hd]
      generalize hk : min b.length 4 = k at *
      simp (maxSteps := 3000000) (disch := first | exact trivial | assumption | omega | exact RegOk.mk (by decide +kernel) | exact RegCl.mk (by decide +kernel) | exact RegNo.mk (by kernel_rfl)) only [go_sem, seval, Fd.H, Fd.D, pieceD, hmin, hk, hd']
      refine callG [0] (feed_fail 5 ⟨most, b, at_, false, last, prev, 0, wh⟩) rfl (by simp (maxSteps := 3000000) (disch := first | exact trivial | assumption | omega | exact RegOk.mk (by decide +kernel) | exact RegCl.mk (by decide +kernel) | exact RegNo.mk (by kernel_rfl)) only [go_sem, seval]) ?_ ?_ ?_
      · simp (maxSteps := 3000000) (disch := first | exact trivial | assumption | omega | exact RegOk.mk (by decide +kernel) | exact RegCl.mk (by decide +kernel) | exact RegNo.mk (by kernel_rfl)) only [go_sem, seval]
      · simp (maxSteps := 3000000) (disch := first | exact trivial | assumption | omega | exact RegOk.mk (by decide +kernel) | exact RegCl.mk (by decide +kernel) | exact RegNo.mk (by kernel_rfl)) only [go_sem, seval, Fd.H, Fd.D]
      simp (maxSteps := 3000000) (disch := first | exact trivial | assumption | omega | exact RegOk.mk (by decide +kernel) | exact RegCl.mk (by decide +kernel) | exact RegNo.mk (by kernel_rfl)) only [go_sem, seval, Fd.H, Fd.D, Fd.fail]
  | true =>
    rw [if_neg (by simp)] at hr
    simp (maxSteps := 3000000) (disch := first | exact trivial | assumption | omega | exact RegOk.mk (by decide +kernel) | exact RegCl.mk (by decide +kernel) | exact RegNo.mk (by kernel_rfl)) only [go_sem, seval, Fd.H, Fd.D, pieceD]
    refine callCl (seg_Get b 0 prev most (by omega) hm h1 h3) (LesV.refl _) rfl ?_
    generalize hg : segGet b 0 prev most = x at *
    obtain ⟨body, e, d, c⟩ := x
    simp only at hr hr2 hr3 hr4 he he2
    by_cases h4 : c = 4
    · rw [if_pos h4] at hr
      subst h4 hr
      have : ((0 : Nat) == 0 && true && ((4 : Nat) == 0)) = false := rfl
      rw [this] at hr2
      subst hr2
      simp only [Bool.false_eq_true, if_false] at hr3 hr4
      subst hr3 hr4
      simp (maxSteps := 3000000) (disch := first | exact trivial | assumption | omega | exact RegOk.mk (by decide +kernel) | exact RegCl.mk (by decide +kernel) | exact RegNo.mk (by kernel_rfl)) only [go_sem, seval, Fd.H, Fd.D, pieceD, sgD]
    rw [if_neg h4] at hr
    by_cases h0 : c = 0
    case neg =>
      rw [if_pos h0] at hr
      have : ((0 : Nat) == 0 && true && (c == 0)) = false := by simp [h0]
      rw [this] at hr2
      subst hr2
      simp only [Bool.false_eq_true, if_false] at hr3 hr4
      subst hr3 hr4 hr
      simp (maxSteps := 3000000) (disch := first | exact trivial | assumption | omega | exact RegOk.mk (by decide +kernel) | exact RegCl.mk (by decide +kernel) | exact RegNo.mk (by kernel_rfl)) only [go_sem, seval, Fd.H, Fd.D, pieceD, sgD]
      refine callG [0] (feed_fail c ⟨most, b, at_, true, last, prev, 0, wh⟩) rfl (by simp (maxSteps := 3000000) (disch := first | exact trivial | assumption | omega | exact RegOk.mk (by decide +kernel) | exact RegCl.mk (by decide +kernel) | exact RegNo.mk (by kernel_rfl)) only [go_sem, seval]) ?_ ?_ ?_
      · simp (maxSteps := 3000000) (disch := first | exact trivial | assumption | omega | exact RegOk.mk (by decide +kernel) | exact RegCl.mk (by decide +kernel) | exact RegNo.mk (by kernel_rfl)) only [go_sem, seval]
      · simp (maxSteps := 3000000) (disch := first | exact trivial | assumption | omega | exact RegOk.mk (by decide +kernel) | exact RegCl.mk (by decide +kernel) | exact RegNo.mk (by kernel_rfl)) only [go_sem, seval, Fd.H, Fd.D]
      simp (maxSteps := 3000000) (disch := first | exact trivial | assumption | omega | exact RegOk.mk (by decide +kernel) | exact RegCl.mk (by decide +kernel) | exact RegNo.mk (by kernel_rfl)) only [go_sem, seval, Fd.H, Fd.D, Fd.fail]
    rw [if_neg (by simp [h0])] at hr
    subst h0
    have : ((0 : Nat) == 0 && true && ((0 : Nat) == 0)) = true := rfl
    rw [this] at hr2
    subst hr2
    simp only [if_true] at hr3 hr4
    subst hr3 hr4 hr
    simp (maxSteps := 3000000) (disch := first | exact trivial | assumption | omega | exact RegOk.mk (by decide +kernel) | exact RegCl.mk (by decide +kernel) | exact RegNo.mk (by kernel_rfl)) only [go_sem, seval, Fd.H, Fd.D, pieceD, sgD, List.take_length]
    exact LeV.of_eq (by rw [Int.natCast_add])
end Go.Proofs.YtpobbfhdkbnpmaaDoor.Lv
