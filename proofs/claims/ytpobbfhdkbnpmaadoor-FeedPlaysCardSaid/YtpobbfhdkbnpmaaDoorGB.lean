/- Segments: the reference's Get; the laws of chapter 21. -/
import Derived.Test.YtpobbfhdkbnpmaaDoorGA
set_option linter.unusedVariables false
set_option linter.unusedSimpArgs false
set_option maxRecDepth 100000
set_option maxHeartbeats 4000000
namespace Go.Proofs.YtpobbfhdkbnpmaaDoor.Lv
open Go Go.RowKit

theorem cut_split (b : List UInt8) (i e k : Nat) (h1 : i ≤ e) (h2 : e ≤ k) : (b.take k).drop i = (b.take e).drop i ++ (b.take k).drop e := by
  have : b.take k = b.take e ++ (b.take k).drop e := by
    conv => lhs; rw [← List.take_append_drop e (b.take k), List.take_take, Nat.min_eq_left h2]
  by_cases he : e ≤ b.length
  · conv => lhs; rw [this]
    rw [List.drop_append_of_le_length (by simp; omega)]
  · rw [List.take_of_length_le (i := k) (by omega), List.take_of_length_le (i := e) (by omega), List.drop_of_length_le (i := e) (by omega), List.append_nil]
theorem r2_SegGet (b : List UInt8) (a : Int) (prev : List UInt8) (most : Int) (ha : -9223372036854775808 ≤ a ∧ a ≤ 9223372036854775807) (hm : -9223372036854775808 ≤ most ∧ most ≤ 9223372036854775807) (hb : b.length < 17179869184) (hp : prev.length < 17179869184) :
    C E 25 [words, .str b, .int .i64 a, .str prev, .int .i64 most] (sgD (segGet b a prev most)) := by
  refine CG_intro Tryd.func25 rfl (by kernel_rfl) rfl (by kernel_rfl) (by kernel_rfl) rfl ?_
  simp (maxSteps := 3000000) (disch := first | exact trivial | assumption | omega | exact RegOk.mk (by decide +kernel) | exact RegCl.mk (by decide +kernel) | exact RegNo.mk (by kernel_rfl)) only [go_sem, seval]
  refine ⟨by kernel_rfl, ?_⟩
  refine callC (r2_Get b a ha (by omega)) (LesV.refl _) rfl ?_
  have hok := vget_ok (b := b) (a := a)
  obtain ⟨hlt, h6⟩ := vget_lt b a
  generalize hr : segGet b a prev most = res
  unfold segGet at hr
  simp only [vgD]
  generalize hg : vget b a = g at *
  obtain ⟨n, e, c⟩ := g
  simp only at hok hlt h6 hr
  by_cases hc : c = 0
  case neg =>
    rw [if_pos hc] at hr
    subst hr
    simp (maxSteps := 3000000) (disch := first | exact trivial | assumption | omega | exact RegOk.mk (by decide +kernel) | exact RegCl.mk (by decide +kernel) | exact RegNo.mk (by kernel_rfl)) only [go_sem, seval]
    exact LeV.refl _
  rw [if_neg (by omega)] at hr
  obtain ⟨h0, hcan, hae, heb⟩ := hok hc
  subst hc
  obtain ⟨i, rfl⟩ := Int.eq_ofNat_of_zero_le h0
  rw [Int.toNat_natCast] at hcan hae
  by_cases hn : n = 0
  · rw [if_pos hn] at hr
    subst hr
    simp (maxSteps := 3000000) (disch := first | exact trivial | assumption | omega | exact RegOk.mk (by decide +kernel) | exact RegCl.mk (by decide +kernel) | exact RegNo.mk (by kernel_rfl)) only [go_sem, seval]
    exact LeV.refl _
  rw [if_neg hn] at hr
  by_cases hmo : most < (n : Int)
  · rw [if_pos hmo] at hr
    subst hr
    simp (maxSteps := 3000000) (disch := first | exact trivial | assumption | omega | exact RegOk.mk (by decide +kernel) | exact RegCl.mk (by decide +kernel) | exact RegNo.mk (by kernel_rfl)) only [go_sem, seval]
    exact LeV.refl _
  rw [if_neg hmo] at hr
  by_cases hs : b.length < e + n + 32
  · rw [if_pos hs] at hr
    subst hr
    by_cases hs' : b.length < e + n
    · simp (maxSteps := 3000000) (disch := first | exact trivial | assumption | omega | exact RegOk.mk (by decide +kernel) | exact RegCl.mk (by decide +kernel) | exact RegNo.mk (by kernel_rfl)) only [go_sem, seval]
      exact LeV.refl _
    · simp (maxSteps := 3000000) (disch := first | exact trivial | assumption | omega | exact RegOk.mk (by decide +kernel) | exact RegCl.mk (by decide +kernel) | exact RegNo.mk (by kernel_rfl)) only [go_sem, seval]
      exact LeV.refl _
  rw [if_neg hs] at hr
  have e1 : ((e : Int) + (n : Int)).toNat = e + n := by omega
  have e2 : ((e : Int) + (n : Int) + 32).toNat = e + n + 32 := by omega
  have hcut := cut_split b i e (e + n) (by omega) (by omega)
  rw [hcan] at hcut
  generalize hbd : (b.take (e + n)).drop e = body at *
  have hbl : body.length = n := by rw [← hbd]; simp; omega
  have hv := vput_len n hlt
  have h3 : (prev.length + (vput n ++ body).length ≤ 9223372036854775807) = True := eq_true (by rw [List.length_append]; omega)
  have hl : (prev ++ (vput n ++ body)).length < 1099511627776 := by rw [List.length_append, List.length_append]; omega
  have hsd : sha (prev ++ (vput n ++ body)) = segDig prev body := by rw [segDig, hbl, List.append_assoc]
  have h4 : (prev.length + (e + n - i) ≤ 9223372036854775807) = True := eq_true (by omega)
  have h5 : (b.take (e + n)).length = e + n := by simp; omega
  simp (maxSteps := 3000000) (disch := first | exact trivial | assumption | omega | exact RegOk.mk (by decide +kernel) | exact RegCl.mk (by decide +kernel) | exact RegNo.mk (by kernel_rfl)) only [go_sem, seval, e1, hcut, h3, h4, h5]
  refine callCl (r2_Sum _ hl) ?_ rfl ?_
  · simp (maxSteps := 3000000) (disch := first | exact trivial | assumption | omega | exact RegOk.mk (by decide +kernel) | exact RegCl.mk (by decide +kernel) | exact RegNo.mk (by kernel_rfl)) only [go_sem, seval, cl_imp nof _ words cl_words]
    try exact LesV.refl _
  rw [hsd]
  by_cases hd : (b.take (e + n + 32)).drop (e + n) = segDig prev body
  · have hd' : (!((b.take (e + n + 32)).drop (e + n) == segDig prev body)) = false := by rw [hd]; simp
    rw [if_neg (by simp [hd])] at hr
    subst hr
    simp (maxSteps := 3000000) (disch := first | exact trivial | assumption | omega | exact RegOk.mk (by decide +kernel) | exact RegCl.mk (by decide +kernel) | exact RegNo.mk (by kernel_rfl)) only [go_sem, seval, e1, e2, hd', hbd]
    exact LeV.refl _
  · have hd' : (!((b.take (e + n + 32)).drop (e + n) == segDig prev body)) = true := by simp [hd]
    rw [if_pos hd] at hr
    subst hr
    simp (maxSteps := 3000000) (disch := first | exact trivial | assumption | omega | exact RegOk.mk (by decide +kernel) | exact RegCl.mk (by decide +kernel) | exact RegNo.mk (by kernel_rfl)) only [go_sem, seval, e1, e2, hd', hbd]
    exact LeV.refl _
theorem segGet_empty (prev most) : segGet (vput 0 ++ prev) 0 most 9 = ([], 0, [], 7) := by
  have hv : vget (vput 0 ++ prev) 0 = (0, 1, 0) := by
    rw [vput_lt (by omega)]
    rw [vget, if_neg (by simp; omega), vgo, if_neg (by simp), if_neg (by simp), if_pos (by simp)]
    simp
  unfold segGet
  rw [hv]
  simp
theorem law21_alive : C E 21 [] (.bool true) := by
  refine CG_intro Tryd.func21 rfl (by kernel_rfl) rfl (by kernel_rfl) (by kernel_rfl) rfl ?_
  have hB : (sha magic).length = 32 := sha_length _
  have hp : segPut (sha magic) [] = vput 0 ++ segDig (sha magic) [] := by simp [segPut]
  have hd := segDig_len (sha magic) []
  have hv := vput_len 0 (by omega)
  have h1 : (vput 0).length = 1 := by rw [vput_lt (by omega)]; rfl
  have he : ∀ x : List UInt8, (x == x) = true := fun x => by simp
  simp (maxSteps := 3000000) (disch := first | exact trivial | assumption | omega | exact RegOk.mk (by decide +kernel) | exact RegCl.mk (by decide +kernel) | exact RegNo.mk (by kernel_rfl)) only [go_sem, seval]
  refine callC seg_Begin (LesV.refl _) rfl ?_
  simp (maxSteps := 3000000) (disch := first | exact trivial | assumption | omega | exact RegOk.mk (by decide +kernel) | exact RegCl.mk (by decide +kernel) | exact RegNo.mk (by kernel_rfl)) only [go_sem, seval]
  refine callC (seg_Put (sha magic) [] (by omega) (by simp)) (LesV.refl _) rfl ?_
  simp (maxSteps := 3000000) (disch := first | exact trivial | assumption | omega | exact RegOk.mk (by decide +kernel) | exact RegCl.mk (by decide +kernel) | exact RegNo.mk (by kernel_rfl)) only [go_sem, seval, hp]
  refine callC seg_Begin (LesV.refl _) rfl ?_
  simp (maxSteps := 3000000) (disch := first | exact trivial | assumption | omega | exact RegOk.mk (by decide +kernel) | exact RegCl.mk (by decide +kernel) | exact RegNo.mk (by kernel_rfl)) only [go_sem, seval]
  refine callC (seg_Get (vput 0 ++ segDig (sha magic) []) 0 (sha magic) 9 (by omega) (by omega) (by rw [List.length_append]; omega) (by omega)) (LesV.refl _) rfl ?_
  rw [segGet_empty]
  simp (maxSteps := 3000000) (disch := first | exact trivial | assumption | omega | exact RegOk.mk (by decide +kernel) | exact RegCl.mk (by decide +kernel) | exact RegNo.mk (by kernel_rfl)) only [go_sem, seval, sgD]
  refine callC seg_Begin (LesV.refl _) rfl ?_
  simp (maxSteps := 3000000) (disch := first | exact trivial | assumption | omega | exact RegOk.mk (by decide +kernel) | exact RegCl.mk (by decide +kernel) | exact RegNo.mk (by kernel_rfl)) only [go_sem, seval]
  refine callC (sha_SumX [magic] magic (by simp) (by simp) (by decide)) ?_ rfl ?_
  · simp (maxSteps := 3000000) (disch := first | exact trivial | assumption | omega | exact RegOk.mk (by decide +kernel) | exact RegCl.mk (by decide +kernel) | exact RegNo.mk (by kernel_rfl)) only [go_sem, seval]
    refine LesV_row fun j hj => ?_
    obtain rfl : j = 0 := by omega
    rfl
  simp (maxSteps := 3000000) (disch := first | exact trivial | assumption | omega | exact RegOk.mk (by decide +kernel) | exact RegCl.mk (by decide +kernel) | exact RegNo.mk (by kernel_rfl)) only [go_sem, seval, he, h1, hd]
theorem law_SegTells (prev body : List UInt8) : C E 7 [.str prev, .str body] (.bool true) := by
  refine CG_intro Tryd.func7 rfl (by kernel_rfl) rfl (by kernel_rfl) (by kernel_rfl) rfl ?_
  have he : ∀ x : List UInt8, (x == x) = true := fun x => by simp
  simp (maxSteps := 3000000) (disch := first | exact trivial | assumption | omega | exact RegOk.mk (by decide +kernel) | exact RegCl.mk (by decide +kernel) | exact RegNo.mk (by kernel_rfl)) only [go_sem, seval]
  refine callC law21_alive (LesV.refl _) rfl ?_
  by_cases h1 : 100 < prev.length
  · simp (maxSteps := 3000000) (disch := first | exact trivial | assumption | omega | exact RegOk.mk (by decide +kernel) | exact RegCl.mk (by decide +kernel) | exact RegNo.mk (by kernel_rfl)) only [go_sem, seval]
  by_cases h2 : 1000 < body.length
  · simp (maxSteps := 3000000) (disch := first | exact trivial | assumption | omega | exact RegOk.mk (by decide +kernel) | exact RegCl.mk (by decide +kernel) | exact RegNo.mk (by kernel_rfl)) only [go_sem, seval]
  simp (maxSteps := 3000000) (disch := first | exact trivial | assumption | omega | exact RegOk.mk (by decide +kernel) | exact RegCl.mk (by decide +kernel) | exact RegNo.mk (by kernel_rfl)) only [go_sem, seval]
  refine callC (seg_Put prev body (by omega) (by omega)) (LesV.refl _) rfl ?_
  simp (maxSteps := 3000000) (disch := first | exact trivial | assumption | omega | exact RegOk.mk (by decide +kernel) | exact RegCl.mk (by decide +kernel) | exact RegNo.mk (by kernel_rfl)) only [go_sem, seval]
  refine callC r2_Table (LesV.refl _) cl_words ?_
  simp (maxSteps := 3000000) (disch := first | exact trivial | assumption | omega | exact RegOk.mk (by decide +kernel) | exact RegCl.mk (by decide +kernel) | exact RegNo.mk (by kernel_rfl)) only [go_sem, seval, flat_words]
  refine callC (r2_Seg prev body (by omega) (by omega)) ?_ rfl ?_
  · simp (maxSteps := 3000000) (disch := first | exact trivial | assumption | omega | exact RegOk.mk (by decide +kernel) | exact RegCl.mk (by decide +kernel) | exact RegNo.mk (by kernel_rfl)) only [go_sem, seval, cl_imp nof _ words cl_words]
    try exact LesV.refl _
  simp (maxSteps := 3000000) (disch := first | exact trivial | assumption | omega | exact RegOk.mk (by decide +kernel) | exact RegCl.mk (by decide +kernel) | exact RegNo.mk (by kernel_rfl)) only [go_sem, seval, he]
theorem law_SegGets (b : List UInt8) (a : Int) (prev : List UInt8) (most : Int) (ha : -9223372036854775808 ≤ a ∧ a ≤ 9223372036854775807) (hm : -9223372036854775808 ≤ most ∧ most ≤ 9223372036854775807) : C E 8 [.str b, .int .i64 a, .str prev, .int .i64 most] (.bool true) := by
  refine CG_intro Tryd.func8 rfl (by kernel_rfl) rfl (by kernel_rfl) (by kernel_rfl) rfl ?_
  have he : ∀ x : List UInt8, (x == x) = true := fun x => by simp
  simp (maxSteps := 3000000) (disch := first | exact trivial | assumption | omega | exact RegOk.mk (by decide +kernel) | exact RegCl.mk (by decide +kernel) | exact RegNo.mk (by kernel_rfl)) only [go_sem, seval]
  refine callC law21_alive (LesV.refl _) rfl ?_
  by_cases h1 : 100 < prev.length
  · simp (maxSteps := 3000000) (disch := first | exact trivial | assumption | omega | exact RegOk.mk (by decide +kernel) | exact RegCl.mk (by decide +kernel) | exact RegNo.mk (by kernel_rfl)) only [go_sem, seval]
  by_cases h2 : 1000 < b.length
  · simp (maxSteps := 3000000) (disch := first | exact trivial | assumption | omega | exact RegOk.mk (by decide +kernel) | exact RegCl.mk (by decide +kernel) | exact RegNo.mk (by kernel_rfl)) only [go_sem, seval]
  simp (maxSteps := 3000000) (disch := first | exact trivial | assumption | omega | exact RegOk.mk (by decide +kernel) | exact RegCl.mk (by decide +kernel) | exact RegNo.mk (by kernel_rfl)) only [go_sem, seval]
  refine callC (seg_Get b a prev most ha hm (by omega) (by omega)) (LesV.refl _) rfl ?_
  generalize hg : segGet b a prev most = g
  simp (maxSteps := 3000000) (disch := first | exact trivial | assumption | omega | exact RegOk.mk (by decide +kernel) | exact RegCl.mk (by decide +kernel) | exact RegNo.mk (by kernel_rfl)) only [go_sem, seval, sgD]
  refine callC r2_Table (LesV.refl _) cl_words ?_
  simp (maxSteps := 3000000) (disch := first | exact trivial | assumption | omega | exact RegOk.mk (by decide +kernel) | exact RegCl.mk (by decide +kernel) | exact RegNo.mk (by kernel_rfl)) only [go_sem, seval, flat_words, sgD]
  refine callC (r2_SegGet b a prev most ha hm (by omega) (by omega)) ?_ rfl ?_
  · simp (maxSteps := 3000000) (disch := first | exact trivial | assumption | omega | exact RegOk.mk (by decide +kernel) | exact RegCl.mk (by decide +kernel) | exact RegNo.mk (by kernel_rfl)) only [go_sem, seval, cl_imp nof _ words cl_words]
    try exact LesV.refl _
  rw [hg]
  simp (maxSteps := 3000000) (disch := first | exact trivial | assumption | omega | exact RegOk.mk (by decide +kernel) | exact RegCl.mk (by decide +kernel) | exact RegNo.mk (by kernel_rfl)) only [go_sem, seval, he, sgD]
end Go.Proofs.YtpobbfhdkbnpmaaDoor.Lv
