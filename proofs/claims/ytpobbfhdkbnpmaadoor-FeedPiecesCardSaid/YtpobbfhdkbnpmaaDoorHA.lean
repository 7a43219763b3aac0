/- The feed: its methods. -/
import Derived.Test.YtpobbfhdkbnpmaaDoorGB
set_option linter.unusedVariables false
set_option linter.unusedSimpArgs false
set_option maxRecDepth 100000
set_option maxHeartbeats 4000000
namespace Go.Proofs.YtpobbfhdkbnpmaaDoor.Lv
open Go Go.RowKit

def pre (p s : List UInt8) : Bool := decide (p.length ≤ s.length) && (s.take p.length == p)
/-- A feed. -/
structure Fd where
  most : Int
  b : List UInt8
  at_ : Nat
  begun : Bool
  last : Bool
  prev : List UInt8
  code : Nat
  wh : Nat
def Fd.D (f : Fd) : D := .agg [.int .i64 f.most, .str f.b, .int .i64 f.at_, .bool f.begun, .bool f.last, .str f.prev, .int .i64 f.code, .int .i64 f.wh]
def Fd.H (f : Fd) : Hp := [(0, .var true 8 f.D)]
def Fd.fail (e : Nat) (f : Fd) : Fd := { f with code := e, wh := f.at_, b := [] }
def Fd.push (s : List UInt8) (f : Fd) : Fd := if f.code ≠ 0 then f else if s = [] then f else if f.last = true then f.fail 11 else
  if f.begun = false ∧ pre magic (f.b ++ s) = true then { f with begun := true, at_ := 4, b := (f.b ++ s).drop 4 } else { f with b := f.b ++ s }
def Fd.next (f : Fd) : Fd := if f.code ≠ 0 then f else
  if f.begun = false then (if f.b.take (min f.b.length 4) ≠ magic.take (min f.b.length 4) then f.fail 5 else f) else
  if (segGet f.b 0 f.prev f.most).2.2.2 = 4 then f else if (segGet f.b 0 f.prev f.most).2.2.2 ≠ 0 then f.fail (segGet f.b 0 f.prev f.most).2.2.2 else
  { f with at_ := f.at_ + (segGet f.b 0 f.prev f.most).2.1, b := f.b.drop (segGet f.b 0 f.prev f.most).2.1, prev := (segGet f.b 0 f.prev f.most).2.2.1 }
def Fd.got (f : Fd) : Bool := f.code == 0 && f.begun && (segGet f.b 0 f.prev f.most).2.2.2 == 0
def Fd.body (f : Fd) : List UInt8 := if f.got = true then (segGet f.b 0 f.prev f.most).1 else []
def Fd.from_ (f : Fd) : Nat := if f.got = true then f.at_ else 0
def Fd.end_ (f : Fd) : Fd := if f.code ≠ 0 then f else if f.b ≠ [] then ({ f with last := true } : Fd).fail 11 else { f with last := true }
def Fd.new (most : Int) : Fd := ⟨most, [], 0, false, false, sha magic, 0, 0⟩

theorem feed_New (most : Int) : CG E 28 [.int .i64 most] [] (.ad 0 0) (Fd.new most).H := by
  refine CG_intro Tryd.func28 rfl (by kernel_rfl) rfl (by kernel_rfl) (by kernel_rfl) rfl ?_
  simp (maxSteps := 3000000) (disch := first | exact trivial | assumption | omega | exact RegOk.mk (by decide +kernel) | exact RegCl.mk (by decide +kernel) | exact RegNo.mk (by kernel_rfl)) only [go_sem, seval]
  refine callC seg_Begin (LesV.refl _) rfl ?_
  simp (maxSteps := 3000000) (disch := first | exact trivial | assumption | omega | exact RegOk.mk (by decide +kernel) | exact RegCl.mk (by decide +kernel) | exact RegNo.mk (by kernel_rfl)) only [go_sem, seval, Fd.new, Fd.H, Fd.D]
theorem feed_fail (e : Nat) (f : Fd) : CG E 50 [.ad 0 0, .int .i64 e] f.H (.tup []) (f.fail e).H := by
  refine CG_intro Tryd.func50 rfl (by kernel_rfl) rfl (by kernel_rfl) (by kernel_rfl) rfl ?_
  simp (maxSteps := 3000000) (disch := first | exact trivial | assumption | omega | exact RegOk.mk (by decide +kernel) | exact RegCl.mk (by decide +kernel) | exact RegNo.mk (by kernel_rfl)) only [go_sem, seval, Fd.H, Fd.D, Fd.fail]
theorem feed_Push_nil (s : List UInt8) : C E 29 [.nilp, .str s] (.tup []) := by
  refine CG_intro Tryd.func29 rfl (by kernel_rfl) rfl (by kernel_rfl) (by kernel_rfl) rfl ?_
  simp (maxSteps := 3000000) (disch := first | exact trivial | assumption | omega | exact RegOk.mk (by decide +kernel) | exact RegCl.mk (by decide +kernel) | exact RegNo.mk (by kernel_rfl)) only [go_sem, seval]
theorem lite_HasPrefix (s p : List UInt8) (hs : s.length < 1099511627776) (hp : p.length < 1099511627776) : C E 64 [.str s, .str p] (.bool (pre p s)) := by
  refine CG_intro Tryd.func64 rfl (by kernel_rfl) rfl (by kernel_rfl) (by kernel_rfl) rfl ?_
  by_cases h : p.length ≤ s.length
  · simp (maxSteps := 3000000) (disch := first | exact trivial | assumption | omega | exact RegOk.mk (by decide +kernel) | exact RegCl.mk (by decide +kernel) | exact RegNo.mk (by kernel_rfl)) only [go_sem, seval]
    exact LeV.of_eq (by simp [pre, h])
  · simp (maxSteps := 3000000) (disch := first | exact trivial | assumption | omega | exact RegOk.mk (by decide +kernel) | exact RegCl.mk (by decide +kernel) | exact RegNo.mk (by kernel_rfl)) only [go_sem, seval]
    exact LeV.of_eq (by simp [pre, h])
theorem strings_HasPrefix (s p : List UInt8) (hs : s.length < 1099511627776) (hp : p.length < 1099511627776) : C E 51 [.str s, .str p] (.bool (pre p s)) := by
  refine CG_intro Tryd.func51 rfl (by kernel_rfl) rfl (by kernel_rfl) (by kernel_rfl) rfl ?_
  simp (maxSteps := 3000000) (disch := first | exact trivial | assumption | omega | exact RegOk.mk (by decide +kernel) | exact RegCl.mk (by decide +kernel) | exact RegNo.mk (by kernel_rfl)) only [go_sem, seval]
  refine callC (lite_HasPrefix s p hs hp) (LesV.refl _) rfl ?_
  simp (maxSteps := 3000000) (disch := first | exact trivial | assumption | omega | exact RegOk.mk (by decide +kernel) | exact RegCl.mk (by decide +kernel) | exact RegNo.mk (by kernel_rfl)) only [go_sem, seval]
theorem pre_len {p s : List UInt8} (h : pre p s = true) : p.length ≤ s.length := by
  simp only [pre, Bool.and_eq_true, decide_eq_true_eq] at h
  exact h.1
theorem feed_Push (s : List UInt8) (f : Fd) (h1 : f.b.length < 17179869184) (h2 : s.length < 17179869184) : CG E 29 [.ad 0 0, .str s] f.H (.tup []) (f.push s).H := by
  refine CG_intro Tryd.func29 rfl (by kernel_rfl) rfl (by kernel_rfl) (by kernel_rfl) rfl ?_
  generalize hr : f.push s = r
  unfold Fd.push at hr
  obtain ⟨most, b, at_, begun, last, prev, code, wh⟩ := f
  simp only at hr h1
  by_cases hc : code = 0
  case neg =>
    rw [if_pos hc] at hr
    subst hr
    simp (maxSteps := 3000000) (disch := first | exact trivial | assumption | omega | exact RegOk.mk (by decide +kernel) | exact RegCl.mk (by decide +kernel) | exact RegNo.mk (by kernel_rfl)) only [go_sem, seval, Fd.H, Fd.D]
  rw [if_neg (by simp [hc])] at hr
  subst hc
  by_cases hs : s = []
  · rw [if_pos hs] at hr
    subst hs hr
    simp (maxSteps := 3000000) (disch := first | exact trivial | assumption | omega | exact RegOk.mk (by decide +kernel) | exact RegCl.mk (by decide +kernel) | exact RegNo.mk (by kernel_rfl)) only [go_sem, seval, Fd.H, Fd.D]
  rw [if_neg hs] at hr
  have hs' : (s == []) = false := by simp [hs]
  cases last with
  | true =>
    rw [if_pos rfl] at hr
    subst hr
    simp (maxSteps := 3000000) (disch := first | exact trivial | assumption | omega | exact RegOk.mk (by decide +kernel) | exact RegCl.mk (by decide +kernel) | exact RegNo.mk (by kernel_rfl)) only [go_sem, seval, Fd.H, Fd.D, hs']
    refine callG [0] (feed_fail 11 ⟨most, b, at_, begun, true, prev, 0, wh⟩) rfl (by simp (maxSteps := 3000000) (disch := first | exact trivial | assumption | omega | exact RegOk.mk (by decide +kernel) | exact RegCl.mk (by decide +kernel) | exact RegNo.mk (by kernel_rfl)) only [go_sem, seval]) ?_ ?_ ?_
    · simp (maxSteps := 3000000) (disch := first | exact trivial | assumption | omega | exact RegOk.mk (by decide +kernel) | exact RegCl.mk (by decide +kernel) | exact RegNo.mk (by kernel_rfl)) only [go_sem, seval]
    · simp (maxSteps := 3000000) (disch := first | exact trivial | assumption | omega | exact RegOk.mk (by decide +kernel) | exact RegCl.mk (by decide +kernel) | exact RegNo.mk (by kernel_rfl)) only [go_sem, seval, Fd.H, Fd.D]
    simp (maxSteps := 3000000) (disch := first | exact trivial | assumption | omega | exact RegOk.mk (by decide +kernel) | exact RegCl.mk (by decide +kernel) | exact RegNo.mk (by kernel_rfl)) only [go_sem, seval, Fd.H, Fd.D, Fd.fail]
  | false =>
    rw [if_neg (by simp)] at hr
    have h3 : (b.length + s.length ≤ 9223372036854775807) = True := eq_true (by omega)
    cases begun with
    | true =>
      rw [if_neg (by simp)] at hr
      subst hr
      simp (maxSteps := 3000000) (disch := first | exact trivial | assumption | omega | exact RegOk.mk (by decide +kernel) | exact RegCl.mk (by decide +kernel) | exact RegNo.mk (by kernel_rfl)) only [go_sem, seval, Fd.H, Fd.D, hs', h3]
    | false =>
      simp (maxSteps := 3000000) (disch := first | exact trivial | assumption | omega | exact RegOk.mk (by decide +kernel) | exact RegCl.mk (by decide +kernel) | exact RegNo.mk (by kernel_rfl)) only [go_sem, seval, Fd.H, Fd.D, hs', h3]
      refine callC (strings_HasPrefix (b ++ s) magic (by rw [List.length_append]; omega) (by decide)) (LesV.refl _) rfl ?_
      cases hp : pre magic (b ++ s) with
      | true =>
        have hpl : 4 ≤ (b ++ s).length := pre_len hp
        rw [if_pos ⟨rfl, hp⟩] at hr
        subst hr
        rw [List.length_append] at hpl
        simp (maxSteps := 3000000) (disch := first | exact trivial | assumption | omega | exact RegOk.mk (by decide +kernel) | exact RegCl.mk (by decide +kernel) | exact RegNo.mk (by kernel_rfl)) only [go_sem, seval, Fd.H, Fd.D, hs', h3, List.take_length]
        exact LeV.of_eq (by rw [List.take_of_length_le (by simp)])
      | false =>
        rw [if_neg (by simp [hp])] at hr
        subst hr
        simp (maxSteps := 3000000) (disch := first | exact trivial | assumption | omega | exact RegOk.mk (by decide +kernel) | exact RegCl.mk (by decide +kernel) | exact RegNo.mk (by kernel_rfl)) only [go_sem, seval, Fd.H, Fd.D, hs', h3]
end Go.Proofs.YtpobbfhdkbnpmaaDoor.Lv
