/- The feed, in whichever pieces: law 22. -/
import Derived.Test.YtpobbfhdkbnpmaaDoorHEa
set_option linter.unusedVariables false
set_option linter.unusedSimpArgs false
set_option maxRecDepth 100000
set_option maxHeartbeats 40000000
namespace Go.Proofs.YtpobbfhdkbnpmaaDoor.Lv
open Go Go.RowKit

theorem law_FeedPieces (l : List (List UInt8)) (cuts : List Int) (hc : ∀ n ∈ cuts, I64 n) : C E 9 [.ro false 1 l.length (tR l), .ro false 1 cuts.length (iR cuts)] (.bool true) := by
  refine CG_intro Tryd.func9 rfl (by kernel_rfl) rfl (by kernel_rfl) (by kernel_rfl) rfl ?_
  simp (maxSteps := 3000000) (disch := first | exact trivial | assumption | omega | exact RegOk.mk (by decide +kernel) | exact RegCl.mk (by decide +kernel) | exact RegNo.mk (by kernel_rfl)) only [go_sem, seval]
  refine callC law22_alive (LesV.refl _) rfl ?_
  by_cases h1 : 8 < l.length
  · simp (maxSteps := 3000000) (disch := first | exact trivial | assumption | omega | exact RegOk.mk (by decide +kernel) | exact RegCl.mk (by decide +kernel) | exact RegNo.mk (by kernel_rfl)) only [go_sem, seval]
  by_cases h2 : 100 < cuts.length
  · simp (maxSteps := 3000000) (disch := first | exact trivial | assumption | omega | exact RegOk.mk (by decide +kernel) | exact RegCl.mk (by decide +kernel) | exact RegNo.mk (by kernel_rfl)) only [go_sem, seval]
  simp (maxSteps := 3000000) (disch := first | exact trivial | assumption | omega | exact RegOk.mk (by decide +kernel) | exact RegCl.mk (by decide +kernel) | exact RegNo.mk (by kernel_rfl)) only [go_sem, seval]
  refine AL.of (fun k : Nat => k ≤ l.length ∧ ∀ i, i < k → 0 < (l.getD i []).length ∧ (l.getD i []).length ≤ 150) (fun k => l.length - k) (fun k => [(0, .ro false 1 l.length (tR l)), (1, .ro false 1 cuts.length (iR cuts)), (5, .int .i64 k)])
    (fun _ => []) 0 ⟨by omega, fun i hi => by omega⟩ ?_ ?_ ?_ ?_
  · simp (maxSteps := 3000000) (disch := first | exact trivial | assumption | omega | exact RegOk.mk (by decide +kernel) | exact RegCl.mk (by decide +kernel) | exact RegNo.mk (by kernel_rfl)) only [go_sem, seval]
  · trivial
  · intro x _; simp (maxSteps := 3000000) (disch := first | exact trivial | assumption | omega | exact RegOk.mk (by decide +kernel) | exact RegCl.mk (by decide +kernel) | exact RegNo.mk (by kernel_rfl)) only [go_sem, seval]
  rintro k ⟨hk, hall⟩
  by_cases hkl : k = l.length
  case neg =>
    by_cases h3 : 150 < (l.getD k []).length
    · simp (maxSteps := 3000000) (disch := first | exact trivial | assumption | omega | exact RegOk.mk (by decide +kernel) | exact RegCl.mk (by decide +kernel) | exact RegNo.mk (by kernel_rfl)) only [go_sem, seval, tR_getD]
    by_cases h4 : l.getD k [] = []
    · have h5 : ((([] : List UInt8) == []) = true) := rfl
      simp (maxSteps := 3000000) (disch := first | exact trivial | assumption | omega | exact RegOk.mk (by decide +kernel) | exact RegCl.mk (by decide +kernel) | exact RegNo.mk (by kernel_rfl)) only [go_sem, seval, tR_getD, h4, h5]
    have h5 : (l.getD k [] == []) = false := beq_eq_false_iff_ne.2 h4
    have h6 : 0 < (l.getD k []).length := List.length_pos_iff.2 h4
    simp (maxSteps := 3000000) (disch := first | exact trivial | assumption | omega | exact RegOk.mk (by decide +kernel) | exact RegCl.mk (by decide +kernel) | exact RegNo.mk (by kernel_rfl)) only [go_sem, seval, tR_getD, h5]
    refine ⟨k + 1, ⟨by omega, fun i hi => ?_⟩, by show l.length - (k + 1) < l.length - k; omega, ?_, ?_⟩
    · by_cases hik : i = k
      · subst hik; exact ⟨h6, by omega⟩
      · exact hall i (by omega)
    · simp (maxSteps := 3000000) (disch := first | exact trivial | assumption | omega | exact RegOk.mk (by decide +kernel) | exact RegCl.mk (by decide +kernel) | exact RegNo.mk (by kernel_rfl)) only [go_sem, seval]
      exact LeV.of_eq (by rw [Int.natCast_succ])
    · trivial
  subst hkl
  have hsh : Short150 l := fun x hx => by
    obtain ⟨i, hi, rfl⟩ := List.getElem_of_mem hx
    have := hall i hi
    rw [List.getD_eq_getElem?_getD, List.getElem?_eq_getElem hi] at this
    exact this
  have hsum := seglen_sum l fun x hx => (hsh x hx).2
  simp (maxSteps := 3000000) (disch := first | exact trivial | assumption | omega | exact RegOk.mk (by decide +kernel) | exact RegCl.mk (by decide +kernel) | exact RegNo.mk (by kernel_rfl)) only [go_sem, seval]
  refine callC (law22_Stream l (by omega) fun x hx => (hsh x hx).2) (LesV.refl _) rfl ?_
  simp (maxSteps := 3000000) (disch := first | exact trivial | assumption | omega | exact RegOk.mk (by decide +kernel) | exact RegCl.mk (by decide +kernel) | exact RegNo.mk (by kernel_rfl)) only [go_sem, seval]
  refine callG [] (feed_New 150) rfl rfl ?_ rfl ?_
  · simp (maxSteps := 3000000) (disch := first | exact trivial | assumption | omega | exact RegOk.mk (by decide +kernel) | exact RegCl.mk (by decide +kernel) | exact RegNo.mk (by kernel_rfl)) only [go_sem, seval]
  have hend := posn_end l (sha magic)
  have hrun := Run.new l
  generalize hT : magic ++ strm l (sha magic) = T at *
  simp (maxSteps := 3000000) (disch := first | exact trivial | assumption | omega | exact RegOk.mk (by decide +kernel) | exact RegCl.mk (by decide +kernel) | exact RegNo.mk (by kernel_rfl)) only [go_sem, seval, Fd.H, hend, exD_fd]
  refine AL.of (fun x : Nat × Nat × Fd × List UInt8 => x.1 ≤ cuts.length + 1 ∧ Run l x.2.1 x.2.2.1 x.2.2.2 ∧ (x.1 = cuts.length + 1 → x.2.1 = l.length ∧ x.2.2.1.b = [] ∧ x.2.2.1.at_ = posn l x.2.1)) (fun x => cuts.length + 1 - x.1)
    (fun x => [(0, .ro false 1 l.length (tR l)), (1, .ro false 1 cuts.length (iR cuts)), (6, .str x.2.2.2), (7, .ad 0 0), (8, .int .i64 (posn l x.2.1)), (9, .int .i64 x.2.1), (10, .int .i64 (posn l l.length)), (11, .int .i64 x.1)])
    (fun x => [(0, .var true 8 x.2.2.1.D)]) (0, 0, Fd.new 150, T) ⟨by omega, hrun, fun h => by simp at h⟩ ?_ ?_ ?_ ?_
  · simp (maxSteps := 3000000) (disch := first | exact trivial | assumption | omega | exact RegOk.mk (by decide +kernel) | exact RegCl.mk (by decide +kernel) | exact RegNo.mk (by kernel_rfl)) only [go_sem, seval, imp_fd]
    exact LeV.of_eq rfl
  · simp (maxSteps := 3000000) (disch := first | exact trivial | assumption | omega | exact RegOk.mk (by decide +kernel) | exact RegCl.mk (by decide +kernel) | exact RegNo.mk (by kernel_rfl)) only [go_sem, seval, imp_fd]
  · intro x _; simp (maxSteps := 3000000) (disch := first | exact trivial | assumption | omega | exact RegOk.mk (by decide +kernel) | exact RegCl.mk (by decide +kernel) | exact RegNo.mk (by kernel_rfl)) only [go_sem, seval]
  rintro ⟨i, k, f, rest⟩ ⟨hi, hr, hfin⟩
  simp only at hi hr hfin
  by_cases hi2 : i = cuts.length + 1
  · obtain ⟨rfl, g2, g3⟩ := hfin hi2
    subst hi2
    simp (maxSteps := 3000000) (disch := first | exact trivial | assumption | omega | exact RegOk.mk (by decide +kernel) | exact RegCl.mk (by decide +kernel) | exact RegNo.mk (by kernel_rfl)) only [go_sem, seval]
    refine callG [0] (feed_At f) rfl (by simp (maxSteps := 3000000) (disch := first | exact trivial | assumption | omega | exact RegOk.mk (by decide +kernel) | exact RegCl.mk (by decide +kernel) | exact RegNo.mk (by kernel_rfl)) only [go_sem, seval]) ?_ ?_ ?_
    · simp (maxSteps := 3000000) (disch := first | exact trivial | assumption | omega | exact RegOk.mk (by decide +kernel) | exact RegCl.mk (by decide +kernel) | exact RegNo.mk (by kernel_rfl)) only [go_sem, seval]
    · simp (maxSteps := 3000000) (disch := first | exact trivial | assumption | omega | exact RegOk.mk (by decide +kernel) | exact RegCl.mk (by decide +kernel) | exact RegNo.mk (by kernel_rfl)) only [go_sem, seval, Fd.H, imp_fd]
    simp (maxSteps := 3000000) (disch := first | exact trivial | assumption | omega | exact RegOk.mk (by decide +kernel) | exact RegCl.mk (by decide +kernel) | exact RegNo.mk (by kernel_rfl)) only [go_sem, seval, Fd.H, exD_fd, refs_fd, g3]
    refine callG [0] (feed_Held f) rfl (by simp (maxSteps := 3000000) (disch := first | exact trivial | assumption | omega | exact RegOk.mk (by decide +kernel) | exact RegCl.mk (by decide +kernel) | exact RegNo.mk (by kernel_rfl)) only [go_sem, seval]) ?_ ?_ ?_
    · simp (maxSteps := 3000000) (disch := first | exact trivial | assumption | omega | exact RegOk.mk (by decide +kernel) | exact RegCl.mk (by decide +kernel) | exact RegNo.mk (by kernel_rfl)) only [go_sem, seval]
    · simp (maxSteps := 3000000) (disch := first | exact trivial | assumption | omega | exact RegOk.mk (by decide +kernel) | exact RegCl.mk (by decide +kernel) | exact RegNo.mk (by kernel_rfl)) only [go_sem, seval, Fd.H, imp_fd]
    simp (maxSteps := 3000000) (disch := first | exact trivial | assumption | omega | exact RegOk.mk (by decide +kernel) | exact RegCl.mk (by decide +kernel) | exact RegNo.mk (by kernel_rfl)) only [go_sem, seval, Fd.H, exD_fd, refs_fd, g2]
  have hb := hr.bound
  have hex : ∃ n : Nat, n ≤ rest.length ∧ (i < cuts.length → within (cuts.getD i 0) 0 (min (rest.length : Int) 60) = (n : Int)) ∧ (¬ i < cuts.length → rest.length = n) := by
    by_cases hic : i < cuts.length
    · obtain ⟨n, e1, e2, e3⟩ := within_nat (cuts.getD i 0) 0 (min rest.length 60) (by omega)
      exact ⟨n, by omega, fun _ => by rw [← e1]; congr 1; omega, fun h => absurd hic h⟩
    · exact ⟨rest.length, Nat.le_refl _, fun h => absurd h hic, fun _ => rfl⟩
  obtain ⟨n, hn, hn1, hn2⟩ := hex
  have hpush : Run l k (f.push (rest.take n)) (rest.drop n) := Run.push (by rw [List.take_append_drop]; exact hr)
  have hpl : (rest.take n).length ≤ rest.length := by rw [List.length_take]; omega
  have hrest' : ¬ i < cuts.length → rest.drop n = [] := fun h => by rw [← hn2 h]; exact List.drop_length
  generalize hs : rest.take n = s at *
  generalize hd : rest.drop n = rest' at *
  by_cases hic : i < cuts.length
  case' pos =>
    have hI := hc _ (getD_mem cuts i 0 hic)
    simp (maxSteps := 3000000) (disch := first | exact trivial | assumption | omega | exact RegOk.mk (by decide +kernel) | exact RegCl.mk (by decide +kernel) | exact RegNo.mk (by kernel_rfl)) only [go_sem, seval, iR]
    refine callC (book_Within (cuts.getD i 0) 0 (min (rest.length : Int) 60) (by omega) (by omega) (by omega) hI) ?_ rfl ?_
    · simp (maxSteps := 3000000) (disch := first | exact trivial | assumption | omega | exact RegOk.mk (by decide +kernel) | exact RegCl.mk (by decide +kernel) | exact RegNo.mk (by kernel_rfl)) only [go_sem, seval]
    rw [hn1 hic]
    simp (maxSteps := 3000000) (disch := first | exact trivial | assumption | omega | exact RegOk.mk (by decide +kernel) | exact RegCl.mk (by decide +kernel) | exact RegNo.mk (by kernel_rfl)) only [go_sem, seval, hs, hd, List.take_length]
  case' neg =>
    have hn3 := hn2 hic
    simp (maxSteps := 3000000) (disch := first | exact trivial | assumption | omega | exact RegOk.mk (by decide +kernel) | exact RegCl.mk (by decide +kernel) | exact RegNo.mk (by kernel_rfl)) only [go_sem, seval, hn3, hs, hd, List.take_length]
  all_goals clear hn1 hn2
  all_goals
    refine CallX_env [(0, .ro false 1 l.length (tR l)), (1, .ro false 1 cuts.length (iR cuts)), (6, .str rest), (7, .ad 0 0), (8, .int .i64 (posn l k)), (9, .int .i64 k), (10, .int .i64 (posn l l.length)), (11, .int .i64 i), (12, .int .i64 n)] (by simp (maxSteps := 3000000) (disch := first | exact trivial | assumption | omega | exact RegOk.mk (by decide +kernel) | exact RegCl.mk (by decide +kernel) | exact RegNo.mk (by kernel_rfl)) only [go_sem, seval]) fun e he => ?_
    simp only [EnvEq_cons, EnvEq_nil] at he
    refine callG [0] (feed_Push s f (by omega) (by omega)) rfl (by simp (maxSteps := 3000000) (disch := first | exact trivial | assumption | omega | exact RegOk.mk (by decide +kernel) | exact RegCl.mk (by decide +kernel) | exact RegNo.mk (by kernel_rfl)) only [go_sem, seval]) ?_ ?_ ?_
    · simp (maxSteps := 3000000) (disch := first | exact trivial | assumption | omega | exact RegOk.mk (by decide +kernel) | exact RegCl.mk (by decide +kernel) | exact RegNo.mk (by kernel_rfl)) only [go_sem, seval]
    · simp (maxSteps := 3000000) (disch := first | exact trivial | assumption | omega | exact RegOk.mk (by decide +kernel) | exact RegCl.mk (by decide +kernel) | exact RegNo.mk (by kernel_rfl)) only [go_sem, seval, Fd.H, imp_fd]
    simp (maxSteps := 3000000) (disch := first | exact trivial | assumption | omega | exact RegOk.mk (by decide +kernel) | exact RegCl.mk (by decide +kernel) | exact RegNo.mk (by kernel_rfl)) only [go_sem, seval, Fd.H, exD_fd, refs_fd, he, hd, List.take_length]
    refine AL.of (fun y : Nat × Fd => Run l y.1 y.2 rest') (fun y => l.length - y.1)
      (fun y => [(0, .ro false 1 l.length (tR l)), (1, .ro false 1 cuts.length (iR cuts)), (6, .str rest'), (7, .ad 0 0), (8, .int .i64 (posn l y.1)), (9, .int .i64 y.1), (10, .int .i64 (posn l l.length)), (11, .int .i64 i)])
      (fun y => [(0, .var true 8 y.2.D)]) (k, f.push s) hpush ?_ ?_ ?_ ?_
    · simp (maxSteps := 3000000) (disch := first | exact trivial | assumption | omega | exact RegOk.mk (by decide +kernel) | exact RegCl.mk (by decide +kernel) | exact RegNo.mk (by kernel_rfl)) only [go_sem, seval, imp_fd, he]
    · simp (maxSteps := 3000000) (disch := first | exact trivial | assumption | omega | exact RegOk.mk (by decide +kernel) | exact RegCl.mk (by decide +kernel) | exact RegNo.mk (by kernel_rfl)) only [go_sem, seval, imp_fd]
    · intro x _; simp (maxSteps := 3000000) (disch := first | exact trivial | assumption | omega | exact RegOk.mk (by decide +kernel) | exact RegCl.mk (by decide +kernel) | exact RegNo.mk (by kernel_rfl)) only [go_sem, seval]
    clear hb hr hfin hpush
    rintro ⟨k', f'⟩ hr'
    simp only at hr'
    have hb' := hr'.bound
    have hmost := hr'.most
    have hcode := hr'.code
    have hkl := hr'.kl
    simp (maxSteps := 3000000) (disch := first | exact trivial | assumption | omega | exact RegOk.mk (by decide +kernel) | exact RegCl.mk (by decide +kernel) | exact RegNo.mk (by kernel_rfl)) only [go_sem, seval]
    refine callG [0] (feed_Next f' (by omega) (by omega) (by omega) (by omega)) rfl (by simp (maxSteps := 3000000) (disch := first | exact trivial | assumption | omega | exact RegOk.mk (by decide +kernel) | exact RegCl.mk (by decide +kernel) | exact RegNo.mk (by kernel_rfl)) only [go_sem, seval]) ?_ ?_ ?_
    · simp (maxSteps := 3000000) (disch := first | exact trivial | assumption | omega | exact RegOk.mk (by decide +kernel) | exact RegCl.mk (by decide +kernel) | exact RegNo.mk (by kernel_rfl)) only [go_sem, seval]
    · simp (maxSteps := 3000000) (disch := first | exact trivial | assumption | omega | exact RegOk.mk (by decide +kernel) | exact RegCl.mk (by decide +kernel) | exact RegNo.mk (by kernel_rfl)) only [go_sem, seval, Fd.H, imp_fd]
    rcases hr'.next hsh with ⟨e1, e2, e3, e4⟩ | ⟨e1, e2, e3, e4, e5⟩
    · rw [e1, e2]
      simp (maxSteps := 3000000) (disch := first | exact trivial | assumption | omega | exact RegOk.mk (by decide +kernel) | exact RegCl.mk (by decide +kernel) | exact RegNo.mk (by kernel_rfl)) only [go_sem, seval, Fd.H, exD_fd, refs_fd, pieceD]
      refine callG [0] (feed_Fault f') rfl (by simp (maxSteps := 3000000) (disch := first | exact trivial | assumption | omega | exact RegOk.mk (by decide +kernel) | exact RegCl.mk (by decide +kernel) | exact RegNo.mk (by kernel_rfl)) only [go_sem, seval]) ?_ ?_ ?_
      · simp (maxSteps := 3000000) (disch := first | exact trivial | assumption | omega | exact RegOk.mk (by decide +kernel) | exact RegCl.mk (by decide +kernel) | exact RegNo.mk (by kernel_rfl)) only [go_sem, seval]
      · simp (maxSteps := 3000000) (disch := first | exact trivial | assumption | omega | exact RegOk.mk (by decide +kernel) | exact RegCl.mk (by decide +kernel) | exact RegNo.mk (by kernel_rfl)) only [go_sem, seval, Fd.H, imp_fd]
      simp (maxSteps := 3000000) (disch := first | exact trivial | assumption | omega | exact RegOk.mk (by decide +kernel) | exact RegCl.mk (by decide +kernel) | exact RegNo.mk (by kernel_rfl)) only [go_sem, seval, Fd.H, exD_fd, refs_fd, pieceD]
      refine callG [0] (feed_Held f') rfl (by simp (maxSteps := 3000000) (disch := first | exact trivial | assumption | omega | exact RegOk.mk (by decide +kernel) | exact RegCl.mk (by decide +kernel) | exact RegNo.mk (by kernel_rfl)) only [go_sem, seval]) ?_ ?_ ?_
      · simp (maxSteps := 3000000) (disch := first | exact trivial | assumption | omega | exact RegOk.mk (by decide +kernel) | exact RegCl.mk (by decide +kernel) | exact RegNo.mk (by kernel_rfl)) only [go_sem, seval]
      · simp (maxSteps := 3000000) (disch := first | exact trivial | assumption | omega | exact RegOk.mk (by decide +kernel) | exact RegCl.mk (by decide +kernel) | exact RegNo.mk (by kernel_rfl)) only [go_sem, seval, Fd.H, imp_fd]
      simp (maxSteps := 3000000) (disch := first | exact trivial | assumption | omega | exact RegOk.mk (by decide +kernel) | exact RegCl.mk (by decide +kernel) | exact RegNo.mk (by kernel_rfl)) only [go_sem, seval, Fd.H, exD_fd, refs_fd, pieceD]
      refine ⟨(i + 1, k', f', rest'), ⟨by show i + 1 ≤ _; omega, hr', fun h => e4 (hrest' (by simp only at h; omega))⟩, by show cuts.length + 1 - (i + 1) < cuts.length + 1 - i; omega, ?_, ?_⟩
      · simp (maxSteps := 3000000) (disch := first | exact trivial | assumption | omega | exact RegOk.mk (by decide +kernel) | exact RegCl.mk (by decide +kernel) | exact RegNo.mk (by kernel_rfl)) only [go_sem, seval]
        exact LeV.of_eq (by rw [Int.natCast_succ])
      · simp (maxSteps := 3000000) (disch := first | exact trivial | assumption | omega | exact RegOk.mk (by decide +kernel) | exact RegCl.mk (by decide +kernel) | exact RegNo.mk (by kernel_rfl)) only [go_sem, seval, imp_fd]
    · rw [e2, e3, e4]
      have hps := posn_succ l k' e1
      have hpos := posn_le l (k' + 1)
      have hpos0 := posn_le l k'
      have hne : ∀ x : List UInt8, (!(x == x)) = false := fun x => by simp
      have hx := hsh _ (getD_mem l k' [] e1)
      generalize hxx : l.getD k' [] = x at *
      by_cases h127 : 127 < x.length
      · have hsl : seglen x = x.length + 34 := by
          rw [seglen, vput_ge (by omega), vput_lt (by omega)]; simp; omega
        simp (maxSteps := 3000000) (disch := first | exact trivial | assumption | omega | exact RegOk.mk (by decide +kernel) | exact RegCl.mk (by decide +kernel) | exact RegNo.mk (by kernel_rfl)) only [go_sem, seval, Fd.H, exD_fd, refs_fd, pieceD, tR_getD, hxx, hne]
        refine ⟨(k' + 1, f'.next), e5, by show l.length - (k' + 1) < l.length - k'; omega, ?_, ?_⟩
        · simp (maxSteps := 3000000) (disch := first | exact trivial | assumption | omega | exact RegOk.mk (by decide +kernel) | exact RegCl.mk (by decide +kernel) | exact RegNo.mk (by kernel_rfl)) only [go_sem, seval]
          exact ⟨LeV.of_eq (by rw [hps, hsl]; congr 1; try omega), LeV.of_eq (by rw [Int.natCast_succ])⟩
        · simp (maxSteps := 3000000) (disch := first | exact trivial | assumption | omega | exact RegOk.mk (by decide +kernel) | exact RegCl.mk (by decide +kernel) | exact RegNo.mk (by kernel_rfl)) only [go_sem, seval, imp_fd]
      · have hsl : seglen x = x.length + 33 := by
          rw [seglen, vput_lt (by omega)]; simp; omega
        simp (maxSteps := 3000000) (disch := first | exact trivial | assumption | omega | exact RegOk.mk (by decide +kernel) | exact RegCl.mk (by decide +kernel) | exact RegNo.mk (by kernel_rfl)) only [go_sem, seval, Fd.H, exD_fd, refs_fd, pieceD, tR_getD, hxx, hne]
        refine ⟨(k' + 1, f'.next), e5, by show l.length - (k' + 1) < l.length - k'; omega, ?_, ?_⟩
        · simp (maxSteps := 3000000) (disch := first | exact trivial | assumption | omega | exact RegOk.mk (by decide +kernel) | exact RegCl.mk (by decide +kernel) | exact RegNo.mk (by kernel_rfl)) only [go_sem, seval]
          exact ⟨LeV.of_eq (by rw [hps, hsl]; congr 1; try omega), LeV.of_eq (by rw [Int.natCast_succ])⟩
        · simp (maxSteps := 3000000) (disch := first | exact trivial | assumption | omega | exact RegOk.mk (by decide +kernel) | exact RegCl.mk (by decide +kernel) | exact RegNo.mk (by kernel_rfl)) only [go_sem, seval, imp_fd]
end Go.Proofs.YtpobbfhdkbnpmaaDoor.Lv
