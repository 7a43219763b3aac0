/- Segments: the program's and the reference's. -/
import Derived.Test.YtpobbfhdkbnpmaaDoorSM
import Derived.Test.YtpobbfhdkbnpmaaDoorVC
import Derived.Test.YtpobbfhdkbnpmaaDoorVD
set_option linter.unusedVariables false
set_option linter.unusedSimpArgs false
set_option maxRecDepth 100000
set_option maxHeartbeats 4000000
namespace Go.Proofs.YtpobbfhdkbnpmaaDoor.Lv
open Go Go.RowKit

def magic : List UInt8 := [67, 78, 67, 49]
def segDig (prev body : List UInt8) : List UInt8 := sha (prev ++ vput body.length ++ body)
def segPut (prev body : List UInt8) : List UInt8 := vput body.length ++ body ++ segDig prev body
/-- A segment at a place: the body, the place behind, the digest, or why not. -/
def segGet (b : List UInt8) (a : Int) (prev : List UInt8) (most : Int) : List UInt8 × Nat × List UInt8 × Nat :=
  if (vget b a).2.2 ≠ 0 then ([], 0, [], (vget b a).2.2) else
  if (vget b a).1 = 0 then ([], 0, [], 7) else
  if most < (vget b a).1 then ([], 0, [], 13) else
  if b.length < (vget b a).2.1 + (vget b a).1 + 32 then ([], 0, [], 4) else
  if (b.take ((vget b a).2.1 + (vget b a).1 + 32)).drop ((vget b a).2.1 + (vget b a).1) ≠ segDig prev ((b.take ((vget b a).2.1 + (vget b a).1)).drop (vget b a).2.1) then ([], 0, [], 8) else
  ((b.take ((vget b a).2.1 + (vget b a).1)).drop (vget b a).2.1, (vget b a).2.1 + (vget b a).1 + 32, segDig prev ((b.take ((vget b a).2.1 + (vget b a).1)).drop (vget b a).2.1), 0)
def sgD (x : List UInt8 × Nat × List UInt8 × Nat) : D := .tup [.str x.1, .int .i64 x.2.1, .str x.2.2.1, .int .i64 x.2.2.2]
theorem seg_Begin : C E 45 [] (.str (sha magic)) := by
  refine CG_intro Tryd.func45 rfl (by kernel_rfl) rfl (by kernel_rfl) (by kernel_rfl) rfl ?_
  simp (maxSteps := 3000000) (disch := first | exact trivial | assumption | omega | exact RegOk.mk (by decide +kernel) | exact RegCl.mk (by decide +kernel) | exact RegNo.mk (by kernel_rfl)) only [go_sem, seval]
  refine callC (sha_SumX [magic] magic (by simp) (by simp) (by decide)) ?_ rfl ?_
  · simp (maxSteps := 3000000) (disch := first | exact trivial | assumption | omega | exact RegOk.mk (by decide +kernel) | exact RegCl.mk (by decide +kernel) | exact RegNo.mk (by kernel_rfl)) only [go_sem, seval]
    refine LesV_row fun j hj => ?_
    obtain rfl : j = 0 := by omega
    rfl
  simp (maxSteps := 3000000) (disch := first | exact trivial | assumption | omega | exact RegOk.mk (by decide +kernel) | exact RegCl.mk (by decide +kernel) | exact RegNo.mk (by kernel_rfl)) only [go_sem, seval]
theorem segDig_len (prev body : List UInt8) : (segDig prev body).length = 32 := sha_length _
theorem seg_Put (prev body : List UInt8) (hp : prev.length < 17179869184) (hb : body.length < 17179869184) : C E 22 [.str prev, .str body] (.tup [.str (segPut prev body), .str (segDig prev body)]) := by
  refine CG_intro Tryd.func22 rfl (by kernel_rfl) rfl (by kernel_rfl) (by kernel_rfl) rfl ?_
  have hv := vput_len body.length (by omega)
  have hl : (prev ++ vput body.length ++ body).length < 1099511627776 := by simp only [List.length_append]; omega
  simp (maxSteps := 3000000) (disch := first | exact trivial | assumption | omega | exact RegOk.mk (by decide +kernel) | exact RegCl.mk (by decide +kernel) | exact RegNo.mk (by kernel_rfl)) only [go_sem, seval]
  refine callC (vint_Put body.length (by omega)) (LesV.refl _) rfl ?_
  simp (maxSteps := 3000000) (disch := first | exact trivial | assumption | omega | exact RegOk.mk (by decide +kernel) | exact RegCl.mk (by decide +kernel) | exact RegNo.mk (by kernel_rfl)) only [go_sem, seval]
  refine callC (sha_SumX [prev, vput body.length, body] (prev ++ vput body.length ++ body) (by simp) (by simp) hl) ?_ rfl ?_
  · simp (maxSteps := 3000000) (disch := first | exact trivial | assumption | omega | exact RegOk.mk (by decide +kernel) | exact RegCl.mk (by decide +kernel) | exact RegNo.mk (by kernel_rfl)) only [go_sem, seval]
    refine LesV_row fun j hj => ?_
    rcases (show j = 0 ∨ j = 1 ∨ j = 2 by omega) with rfl | rfl | rfl <;> rfl
  have hd := segDig_len prev body
  rw [← segDig]
  have h1 : ((vput body.length).length + body.length ≤ 9223372036854775807) = True := eq_true (by omega)
  have h2 : ((vput body.length ++ body).length + (segDig prev body).length ≤ 9223372036854775807) = True := eq_true (by rw [List.length_append]; omega)
  simp (maxSteps := 3000000) (disch := first | exact trivial | assumption | omega | exact RegOk.mk (by decide +kernel) | exact RegCl.mk (by decide +kernel) | exact RegNo.mk (by kernel_rfl)) only [go_sem, seval, h1, h2]
  exact LeV.refl _
theorem r2_Seg (prev body : List UInt8) (hp : prev.length < 17179869184) (hb : body.length < 17179869184) : C E 23 [words, .str prev, .str body] (.tup [.str (segPut prev body), .str (segDig prev body)]) := by
  refine CG_intro Tryd.func23 rfl (by kernel_rfl) rfl (by kernel_rfl) (by kernel_rfl) rfl ?_
  have hv := vput_len body.length (by omega)
  have hl : (prev ++ vput body.length ++ body).length < 1099511627776 := by simp only [List.length_append]; omega
  have hd := segDig_len prev body
  have h1 : ((vput body.length).length + body.length ≤ 9223372036854775807) = True := eq_true (by omega)
  have h2 : ((vput body.length ++ body).length + (segDig prev body).length ≤ 9223372036854775807) = True := eq_true (by rw [List.length_append]; omega)
  have h3 : (prev.length + (vput body.length).length ≤ 9223372036854775807) = True := eq_true (by omega)
  have h4 : ((prev ++ vput body.length).length + body.length ≤ 9223372036854775807) = True := eq_true (by rw [List.length_append]; omega)
  simp (maxSteps := 3000000) (disch := first | exact trivial | assumption | omega | exact RegOk.mk (by decide +kernel) | exact RegCl.mk (by decide +kernel) | exact RegNo.mk (by kernel_rfl)) only [go_sem, seval]
  refine ⟨by kernel_rfl, ?_⟩
  refine callC (r2_Put body.length (by omega)) (LesV.refl _) rfl ?_
  simp (maxSteps := 3000000) (disch := first | exact trivial | assumption | omega | exact RegOk.mk (by decide +kernel) | exact RegCl.mk (by decide +kernel) | exact RegNo.mk (by kernel_rfl)) only [go_sem, seval, h3, h4]
  refine callC (r2_Sum _ hl) ?_ rfl ?_
  · simp (maxSteps := 3000000) (disch := first | exact trivial | assumption | omega | exact RegOk.mk (by decide +kernel) | exact RegCl.mk (by decide +kernel) | exact RegNo.mk (by kernel_rfl)) only [go_sem, seval, cl_imp nof _ words cl_words]
    try exact LesV.refl _
  rw [← segDig]
  simp (maxSteps := 3000000) (disch := first | exact trivial | assumption | omega | exact RegOk.mk (by decide +kernel) | exact RegCl.mk (by decide +kernel) | exact RegNo.mk (by kernel_rfl)) only [go_sem, seval, h1, h2]
  exact LeV.refl _
theorem vget_ok {b : List UInt8} {a : Int} (h : (vget b a).2.2 = 0) : 0 ≤ a ∧ (b.take (vget b a).2.1).drop a.toNat = vput (vget b a).1 ∧ a.toNat < (vget b a).2.1 ∧ (vget b a).2.1 ≤ b.length :=
  vget_canon (by rw [← h])
theorem seg_Get (b : List UInt8) (a : Int) (prev : List UInt8) (most : Int) (ha : -9223372036854775808 ≤ a ∧ a ≤ 9223372036854775807) (hm : -9223372036854775808 ≤ most ∧ most ≤ 9223372036854775807) (hb : b.length < 17179869184) (hp : prev.length < 17179869184) :
    C E 24 [.str b, .int .i64 a, .str prev, .int .i64 most] (sgD (segGet b a prev most)) := by
  refine CG_intro Tryd.func24 rfl (by kernel_rfl) rfl (by kernel_rfl) (by kernel_rfl) rfl ?_
  simp (maxSteps := 3000000) (disch := first | exact trivial | assumption | omega | exact RegOk.mk (by decide +kernel) | exact RegCl.mk (by decide +kernel) | exact RegNo.mk (by kernel_rfl)) only [go_sem, seval]
  refine callC (vint_Get b a ha (by omega)) (LesV.refl _) rfl ?_
  have hok := vget_ok (b := b) (a := a)
  obtain ⟨hlt, h6⟩ := vget_lt b a
  generalize hr : segGet b a prev most = res
  unfold segGet at hr
  simp only [vgD]
  generalize hg : vget b a = g at *
  obtain ⟨n, e, c⟩ := g
  simp only at hok hlt h6 hr
  by_cases hc : c = 0
  case neg =>
    rw [if_pos hc] at hr
    subst hr
    simp (maxSteps := 3000000) (disch := first | exact trivial | assumption | omega | exact RegOk.mk (by decide +kernel) | exact RegCl.mk (by decide +kernel) | exact RegNo.mk (by kernel_rfl)) only [go_sem, seval]
    exact LeV.refl _
  rw [if_neg (by omega)] at hr
  obtain ⟨h0, hcan, hae, heb⟩ := hok hc
  subst hc
  by_cases hn : n = 0
  · rw [if_pos hn] at hr
    subst hr
    simp (maxSteps := 3000000) (disch := first | exact trivial | assumption | omega | exact RegOk.mk (by decide +kernel) | exact RegCl.mk (by decide +kernel) | exact RegNo.mk (by kernel_rfl)) only [go_sem, seval]
    exact LeV.refl _
  rw [if_neg hn] at hr
  by_cases hmo : most < (n : Int)
  · rw [if_pos hmo] at hr
    subst hr
    simp (maxSteps := 3000000) (disch := first | exact trivial | assumption | omega | exact RegOk.mk (by decide +kernel) | exact RegCl.mk (by decide +kernel) | exact RegNo.mk (by kernel_rfl)) only [go_sem, seval]
    exact LeV.refl _
  rw [if_neg hmo] at hr
  by_cases hs : b.length < e + n + 32
  · rw [if_pos hs] at hr
    subst hr
    by_cases hs' : b.length < e + 32
    · simp (maxSteps := 3000000) (disch := first | exact trivial | assumption | omega | exact RegOk.mk (by decide +kernel) | exact RegCl.mk (by decide +kernel) | exact RegNo.mk (by kernel_rfl)) only [go_sem, seval]
      exact LeV.refl _
    · simp (maxSteps := 3000000) (disch := first | exact trivial | assumption | omega | exact RegOk.mk (by decide +kernel) | exact RegCl.mk (by decide +kernel) | exact RegNo.mk (by kernel_rfl)) only [go_sem, seval]
      exact LeV.refl _
  rw [if_neg hs] at hr
  have e1 : ((e : Int) + (n : Int)).toNat = e + n := by omega
  have e2 : ((e : Int) + (n : Int) + 32).toNat = e + n + 32 := by omega
  generalize hbd : (b.take (e + n)).drop e = body at *
  have hbl : body.length < 17179869184 := by rw [← hbd]; simp; omega
  simp (maxSteps := 3000000) (disch := first | exact trivial | assumption | omega | exact RegOk.mk (by decide +kernel) | exact RegCl.mk (by decide +kernel) | exact RegNo.mk (by kernel_rfl)) only [go_sem, seval, e1, hbd]
  refine callC (seg_Put prev body hp hbl) (LesV.refl _) rfl ?_
  simp (maxSteps := 3000000) (disch := first | exact trivial | assumption | omega | exact RegOk.mk (by decide +kernel) | exact RegCl.mk (by decide +kernel) | exact RegNo.mk (by kernel_rfl)) only [go_sem, seval, e1, e2]
  by_cases hd : (b.take (e + n + 32)).drop (e + n) = segDig prev body
  · have hd' : (!((b.take (e + n + 32)).drop (e + n) == segDig prev body)) = false := by rw [hd]; simp
    rw [if_neg (by simp [hd])] at hr
    subst hr
    simp (maxSteps := 3000000) (disch := first | exact trivial | assumption | omega | exact RegOk.mk (by decide +kernel) | exact RegCl.mk (by decide +kernel) | exact RegNo.mk (by kernel_rfl)) only [go_sem, seval, e1, e2, hd']
    exact LeV.refl _
  · have hd' : (!((b.take (e + n + 32)).drop (e + n) == segDig prev body)) = true := by simp [hd]
    rw [if_pos hd] at hr
    subst hr
    simp (maxSteps := 3000000) (disch := first | exact trivial | assumption | omega | exact RegOk.mk (by decide +kernel) | exact RegCl.mk (by decide +kernel) | exact RegNo.mk (by kernel_rfl)) only [go_sem, seval, e1, e2, hd']
    exact LeV.refl _
end Go.Proofs.YtpobbfhdkbnpmaaDoor.Lv
