/- The reference's digest: turn, the beginning. -/
import Derived.Test.YtpobbfhdkbnpmaaDoorFG
set_option linter.unusedVariables false
set_option linter.unusedSimpArgs false
set_option maxRecDepth 100000
set_option maxHeartbeats 4000000
namespace Go.Proofs.YtpobbfhdkbnpmaaDoor.Lv
open Go Go.RowKit

theorem r2_turn (x : W32) (n : Nat) (h0 : 0 < n) (hn : n < 32) : C E 42 [.int .u32 (x.toNat : Int), .int .u64 n] (.int .u32 ((rr n x).toNat : Int)) := by
  refine CG_intro Tryd.func42 rfl (by kernel_rfl) rfl (by kernel_rfl) (by kernel_rfl) rfl ?_
  have e1 : min n 32 = n := by omega
  have e2 : (32 - (n : Int)).toNat = 32 - n := by omega
  have e3 : min (32 - n) 32 = 32 - n := by omega
  simp (maxSteps := 3000000) (disch := first | exact trivial | assumption | omega | exact RegOk.mk (by decide +kernel) | exact RegCl.mk (by decide +kernel) | exact RegNo.mk (by kernel_rfl)) only [go_sem, seval, e1, e2, e3]
  refine LeV.of_eq ?_
  rw [fdiv_lit _ _ (Int.natCast_nonneg _), ← shr_lit n, w_shr, ← shr_lit (32 - n), w_shl, w_or, BitVec.or_comm]
  rfl
theorem sch0_out (b : List UInt8) : ∀ n i, n ≤ i → i < 64 → (sch0 b n).getD i 0#32 = 0#32
  | 0, i, _, hi => by
    rw [sch0, z64, List.getD_eq_getElem?_getD, List.getElem?_replicate, if_pos hi]; rfl
  | n + 1, i, h, hi => by
    rw [sch0, List.getD_eq_getElem?_getD, List.getElem?_set_ne (by omega), ← List.getD_eq_getElem?_getD]
    exact sch0_out b n i (by omega) hi
theorem shl4 (a b c d : W32) : (((0#32 <<< 8 ||| a) <<< 8 ||| b) <<< 8 ||| c) <<< 8 ||| d = a <<< 24 ||| b <<< 16 ||| c <<< 8 ||| d := by
  simp only [BitVec.zero_shiftLeft, BitVec.zero_or, BitVec.shiftLeft_or_distrib, ← BitVec.shiftLeft_add]
theorem r2_Sum (s : List UInt8) (hs : s.length < 1099511627776) : C E 15 [words, .str s] (.str (sha s)) := by
  have hWl : (H0.l ++ K256).length = 72 := rfl
  have hWH : ((H0.l ++ K256).map wD).take 8 = H0.l.map wD := Eq.trans rfl rfl
  have hWK : ∀ i, (H0.l ++ K256).getD (8 + i) 0 = K256.getD i 0 := fun i => by
    rw [List.getD_eq_getElem?_getD, List.getD_eq_getElem?_getD, List.getElem?_append_right (by show 8 ≤ 8 + i; omega)]
    show K256[8 + i - 8]?.getD 0 = _
    rw [Nat.add_sub_cancel_left]
  rw [words]
  generalize H0.l ++ K256 = W at *
  refine CG_intro Tryd.func15 rfl (by kernel_rfl) rfl (by kernel_rfl) (by kernel_rfl) rfl ?_
  simp (maxSteps := 3000000) (disch := first | exact trivial | assumption | omega | exact RegOk.mk (by decide +kernel) | exact RegCl.mk (by decide +kernel) | exact RegNo.mk (by kernel_rfl)) only [go_sem, seval, hWl]
  refine ⟨by omega, .inl trivial, .inr trivial, by omega, by omega, ?_⟩
  refine AL.of (fun j : Nat => j ≤ zer s.length) (fun j => zer s.length - j) (fun j => [(1, .str s), (2, .ad 0 0), (5, .sl 1 (j + 1) 0 (s.length + 1 + j))])
    (fun j => [(1, .row false (j + 1) false 1 (s.length + 1 + j) (bR (s ++ [128] ++ List.replicate j 0))), (0, .var true 72 (.agg (W.map wD)))]) 0 (by omega) ?_ ?_ ?_ ?_
  · simp (maxSteps := 3000000) (disch := first | exact trivial | assumption | omega | exact RegOk.mk (by decide +kernel) | exact RegCl.mk (by decide +kernel) | exact RegNo.mk (by kernel_rfl)) only [go_sem, seval]
  · simp (maxSteps := 3000000) (disch := first | exact trivial | assumption | omega | exact RegOk.mk (by decide +kernel) | exact RegCl.mk (by decide +kernel) | exact RegNo.mk (by kernel_rfl)) only [go_sem, seval, List.replicate_zero, List.append_nil]
    intro i hi
    exact Le.of_eq (bR_app s [128] (i := i) (by simpa using hi))
  · intro x _; simp (maxSteps := 3000000) (disch := first | exact trivial | assumption | omega | exact RegOk.mk (by decide +kernel) | exact RegCl.mk (by decide +kernel) | exact RegNo.mk (by kernel_rfl)) only [go_sem, seval]
  intro j hj
  have hz : zer s.length < 64 := by unfold zer; omega
  by_cases h : j = zer s.length
  case neg =>
    have hc : (((s.length + 1 + j : Nat) : Int).tmod 64 != 56) = true := by
      rw [Int.tmod_eq_emod_of_nonneg (by omega), bne_iff_ne]
      unfold zer at h hj
      omega
    simp (maxSteps := 3000000) (disch := first | exact trivial | assumption | omega | exact RegOk.mk (by decide +kernel) | exact RegCl.mk (by decide +kernel) | exact RegNo.mk (by kernel_rfl)) only [go_sem, seval, hc]
    refine ⟨.inl trivial, .inr trivial, by omega, by omega, j + 1, by omega, by show zer s.length - (j+1) < zer s.length - j; omega, ?_, ?_⟩
    · simp (maxSteps := 3000000) (disch := first | exact trivial | assumption | omega | exact RegOk.mk (by decide +kernel) | exact RegCl.mk (by decide +kernel) | exact RegNo.mk (by kernel_rfl)) only [go_sem, seval]
      rw [show s.length + 1 + j + 1 = s.length + 1 + (j + 1) by omega]
      rw [LeV_self]; trivial
    · simp (maxSteps := 3000000) (disch := first | exact trivial | assumption | omega | exact RegOk.mk (by decide +kernel) | exact RegCl.mk (by decide +kernel) | exact RegNo.mk (by kernel_rfl)) only [go_sem, seval]
      refine ⟨by omega, fun i hi => Le.of_eq ?_⟩
      have hlen : (s ++ [128] ++ List.replicate j 0).length = s.length + 1 + j := by simp; omega
      have := bR_app (s ++ [128] ++ List.replicate j 0) [0] (i := i) (by rw [List.length_append, hlen]; simpa using hi)
      rw [hlen] at this
      rw [List.replicate_succ', ← List.append_assoc]; exact this
  subst h
  have hc : (((s.length + 1 + zer s.length : Nat) : Int).tmod 64 != 56) = false := by
    rw [Int.tmod_eq_emod_of_nonneg (by omega)]
    simp only [bne_eq_false_iff_eq]
    unfold zer
    omega
  have hl0 : (s ++ [128] ++ List.replicate (zer s.length) 0).length = s.length + 1 + zer s.length := by simp; omega
  simp (maxSteps := 3000000) (disch := first | exact trivial | assumption | omega | exact RegOk.mk (by decide +kernel) | exact RegCl.mk (by decide +kernel) | exact RegNo.mk (by kernel_rfl)) only [go_sem, seval, hc]
  refine AL.of (fun i : Nat => i ≤ 8) (fun i => 8 - i) (fun i => [(1, .str s), (2, .ad 0 0), (6, .int .u64 ((s.length : Int) * 8)), (5, .sl 1 (zer s.length + 1 + i) 0 (s.length + 1 + zer s.length + i)), (7, .int .i64 (7 - (i : Int)))])
    (fun i => [(1, .row false (zer s.length + 1 + i) false 1 (s.length + 1 + zer s.length + i) (bR (s ++ [128] ++ List.replicate (zer s.length) 0 ++ be s.length i))), (0, .var true 72 (.agg (W.map wD)))]) 0 (by omega) ?_ ?_ ?_ ?_
  · simp (maxSteps := 3000000) (disch := first | exact trivial | assumption | omega | exact RegOk.mk (by decide +kernel) | exact RegCl.mk (by decide +kernel) | exact RegNo.mk (by kernel_rfl)) only [go_sem, seval]
  · simp (maxSteps := 3000000) (disch := first | exact trivial | assumption | omega | exact RegOk.mk (by decide +kernel) | exact RegCl.mk (by decide +kernel) | exact RegNo.mk (by kernel_rfl)) only [go_sem, seval]
    exact fun i hi => Le.of_eq (by simp [be])
  · intro x _; simp (maxSteps := 3000000) (disch := first | exact trivial | assumption | omega | exact RegOk.mk (by decide +kernel) | exact RegCl.mk (by decide +kernel) | exact RegNo.mk (by kernel_rfl)) only [go_sem, seval]
  intro i hi
  by_cases h : i = 8
  case neg =>
    have hd : decide (0 ≤ (7 : Int) - (i : Int)) = true := by rw [decide_eq_true_eq]; omega
    have e8 : ((8 : Int) * (7 - (i : Int))).toNat = (56 - 8 * (i : Int)).toNat := by omega
    simp (maxSteps := 3000000) (disch := first | exact trivial | assumption | omega | exact RegOk.mk (by decide +kernel) | exact RegCl.mk (by decide +kernel) | exact RegNo.mk (by kernel_rfl)) only [go_sem, seval, hd, e8]
    refine ⟨.inl trivial, .inr trivial, by omega, by omega, i + 1, by omega, by show 8 - (i+1) < 8 - i; omega, ?_, ?_⟩
    · simp (maxSteps := 3000000) (disch := first | exact trivial | assumption | omega | exact RegOk.mk (by decide +kernel) | exact RegCl.mk (by decide +kernel) | exact RegNo.mk (by kernel_rfl)) only [go_sem, seval]
      refine ⟨?_, LeV.of_eq (by congr 1; omega)⟩
      rw [show s.length + 1 + zer s.length + i + 1 = s.length + 1 + zer s.length + (i + 1) by omega]
      rw [Nat.add_assoc _ i 1, LeV_self]; trivial
    · simp (maxSteps := 3000000) (disch := first | exact trivial | assumption | omega | exact RegOk.mk (by decide +kernel) | exact RegCl.mk (by decide +kernel) | exact RegNo.mk (by kernel_rfl)) only [go_sem, seval]
      refine ⟨by omega, by omega, fun k hk => Le.of_eq ?_⟩
      have hlen : (s ++ [128] ++ List.replicate (zer s.length) 0 ++ be s.length i).length = s.length + 1 + zer s.length + i := by rw [List.length_append, hl0, be_length]
      have := bR_app (s ++ [128] ++ List.replicate (zer s.length) 0 ++ be s.length i) [UInt8.ofNat (s.length * 8 / 2 ^ (56 - 8 * i))] (i := k) (by rw [List.length_append, hlen]; simpa using hk)
      rw [hlen] at this
      rw [be_succ, ← List.append_assoc, byte_be _ _ (by omega)]; exact this
  subst h
  have hlen : (s ++ [128] ++ List.replicate (zer s.length) 0 ++ be s.length 8).length = s.length + 1 + zer s.length + 8 := by rw [List.length_append, hl0, be_length]
  simp (maxSteps := 3000000) (disch := first | exact trivial | assumption | omega | exact RegOk.mk (by decide +kernel) | exact RegCl.mk (by decide +kernel) | exact RegNo.mk (by kernel_rfl)) only [go_sem, seval, hWl, hWH]
  obtain ⟨hm, hp⟩ := pad_len s
  rw [← pad] at *
  rw [← hlen]
  generalize hP : pad s = p at *
  have hsh : sha s = outs (stt p (p.length / 64)) 8 := by rw [sha, hP]
  rw [hsh]
  refine ⟨rfl, ?_⟩
  generalize zer s.length + 1 + 8 = V at *
  refine AL.of (fun j : Nat => 64 * j ≤ p.length) (fun j => p.length - 64 * j) (fun j => [(2, .ad 0 0), (5, .sl 1 V 0 p.length), (8, .ad 3 0), (9, .int .i64 (64 * (j : Int)))])
    (fun j => [(3, .var true 8 (.agg ((stt p j).l.map wD))), (1, .row false V false 1 p.length (bR p)), (0, .var true 72 (.agg (W.map wD)))]) 0 (by omega) ?_ ?_ ?_ ?_
  · simp (maxSteps := 3000000) (disch := first | exact trivial | assumption | omega | exact RegOk.mk (by decide +kernel) | exact RegCl.mk (by decide +kernel) | exact RegNo.mk (by kernel_rfl)) only [go_sem, seval]
  · simp (maxSteps := 3000000) (disch := first | exact trivial | assumption | omega | exact RegOk.mk (by decide +kernel) | exact RegCl.mk (by decide +kernel) | exact RegNo.mk (by kernel_rfl)) only [go_sem, seval, stt]
    exact fun _ _ => trivial
  · intro x _; simp (maxSteps := 3000000) (disch := first | exact trivial | assumption | omega | exact RegOk.mk (by decide +kernel) | exact RegCl.mk (by decide +kernel) | exact RegNo.mk (by kernel_rfl)) only [go_sem, seval]
  intro j hj
  by_cases h : 64 * j < p.length
  case pos =>
    have hd : decide (64 * (j : Int) < (p.length : Int)) = true := by rw [decide_eq_true_eq]; omega
    simp (maxSteps := 3000000) (disch := first | exact trivial | assumption | omega | exact RegOk.mk (by decide +kernel) | exact RegCl.mk (by decide +kernel) | exact RegNo.mk (by kernel_rfl)) only [go_sem, seval, hd, z64_eq, z64_len]
    have hb := cut64_len p j h hm
    have hbg : ∀ i, i < 64 → p.getD (64 * j + i) 0 = (cut64 p j).getD i 0 := fun i hi => by
      rw [cut64, List.getD_eq_getElem?_getD, List.getD_eq_getElem?_getD, List.getElem?_take, if_pos hi, List.getElem?_drop]
    generalize hbk : cut64 p j = b at *
    refine AL.of (fun n : Nat => n ≤ 16) (fun n => 16 - n) (fun n => [(2, .ad 0 0), (5, .sl 1 V 0 p.length), (8, .ad 3 0), (9, .int .i64 (64 * (j : Int))), (10, .ad 4 0), (11, .int .i64 n)])
      (fun n => [(4, .var true 64 (.agg ((sch0 b n).map wD))), (3, .var true 8 (.agg ((stt p j).l.map wD))), (1, .row false V false 1 p.length (bR p)), (0, .var true 72 (.agg (W.map wD)))]) 0 (by omega) ?_ ?_ ?_ ?_
    · simp (maxSteps := 3000000) (disch := first | exact trivial | assumption | omega | exact RegOk.mk (by decide +kernel) | exact RegCl.mk (by decide +kernel) | exact RegNo.mk (by kernel_rfl)) only [go_sem, seval]
    · simp (maxSteps := 3000000) (disch := first | exact trivial | assumption | omega | exact RegOk.mk (by decide +kernel) | exact RegCl.mk (by decide +kernel) | exact RegNo.mk (by kernel_rfl)) only [go_sem, seval]
      exact ⟨LeV.of_eq rfl, fun _ _ => trivial⟩
    · intro x _; simp (maxSteps := 3000000) (disch := first | exact trivial | assumption | omega | exact RegOk.mk (by decide +kernel) | exact RegCl.mk (by decide +kernel) | exact RegNo.mk (by kernel_rfl)) only [go_sem, seval]
    intro n hn
    have hl := sch0_len b n
    by_cases h : n = 16
    case neg =>
      have hd : decide ((n : Int) < 16) = true := by rw [decide_eq_true_eq]; omega
      simp (maxSteps := 3000000) (disch := first | exact trivial | assumption | omega | exact RegOk.mk (by decide +kernel) | exact RegCl.mk (by decide +kernel) | exact RegNo.mk (by kernel_rfl)) only [go_sem, seval, hd]
      have hls : ∀ x, ((sch0 b n).set n x).length = 64 := fun x => by rw [List.length_set, hl]
      have hz0 : (sch0 b n).getD n 0#32 = 0#32 := sch0_out b n n (Nat.le_refl _) (by omega)
      have hg : ∀ x, ((sch0 b n).set n x).getD n 0#32 = x := fun x => by
        rw [List.getD_eq_getElem?_getD, List.getElem?_set_self (by omega)]; rfl
      have hw1 : ∀ x y : W32, List.take n (((sch0 b n).set n x).map wD) ++ [D.int .u32 (y.toNat : Int)] ++ List.drop (n + 1) (((sch0 b n).set n x).map wD) = ((sch0 b n).set n y).map wD := fun x y => by
        rw [wl_set _ (by rw [hls]; omega), List.set_set]
      have hw2 : ∀ x : W32, (((sch0 b n).set n x).map wD).getD n .unk = .int .u32 (x.toNat : Int) := fun x => by
        rw [wl_getD _ (by rw [hls]; omega)]
        exact congrArg (fun z : W32 => D.int .u32 (z.toNat : Int)) (hg x)
      have hb0 : bR p (64 * (j : Int) + 4 * (n : Int) + 0).toNat = .int .u8 ((b.getD (4 * n) 0).toNat : Int) := by
        rw [← hbg _ (by omega), show (64 * (j : Int) + 4 * (n : Int) + 0).toNat = 64 * j + 4 * n by omega]; rfl
      have hb1 : bR p (64 * (j : Int) + 4 * (n : Int) + 1).toNat = .int .u8 ((b.getD (4 * n + 1) 0).toNat : Int) := by
        rw [← hbg _ (by omega), show (64 * (j : Int) + 4 * (n : Int) + 1).toNat = 64 * j + (4 * n + 1) by omega]; rfl
      have hb2 : bR p (64 * (j : Int) + 4 * (n : Int) + 2).toNat = .int .u8 ((b.getD (4 * n + 2) 0).toNat : Int) := by
        rw [← hbg _ (by omega), show (64 * (j : Int) + 4 * (n : Int) + 2).toNat = 64 * j + (4 * n + 2) by omega]; rfl
      have hb3 : bR p (64 * (j : Int) + 4 * (n : Int) + 3).toNat = .int .u8 ((b.getD (4 * n + 3) 0).toNat : Int) := by
        rw [← hbg _ (by omega), show (64 * (j : Int) + 4 * (n : Int) + 3).toNat = 64 * j + (4 * n + 3) by omega]; rfl
      refine AL.step ?_
      simp (maxSteps := 3000000) (disch := first | exact trivial | assumption | omega | exact RegOk.mk (by decide +kernel) | exact RegCl.mk (by decide +kernel) | exact RegNo.mk (by kernel_rfl)) only [go_sem, seval, hl, wl_getD, hb0]
      refine AL.step ?_
      simp (maxSteps := 3000000) (disch := first | exact trivial | assumption | omega | exact RegOk.mk (by decide +kernel) | exact RegCl.mk (by decide +kernel) | exact RegNo.mk (by kernel_rfl)) only [go_sem, seval, hls, hw1, hw2, hb1]
      refine AL.step ?_
      simp (maxSteps := 3000000) (disch := first | exact trivial | assumption | omega | exact RegOk.mk (by decide +kernel) | exact RegCl.mk (by decide +kernel) | exact RegNo.mk (by kernel_rfl)) only [go_sem, seval, hls, hw1, hw2, hb2]
      refine AL.step ?_
      simp (maxSteps := 3000000) (disch := first | exact trivial | assumption | omega | exact RegOk.mk (by decide +kernel) | exact RegCl.mk (by decide +kernel) | exact RegNo.mk (by kernel_rfl)) only [go_sem, seval, hls, hw1, hw2, hb3]
      refine AL.step ?_
      simp (maxSteps := 3000000) (disch := first | exact trivial | assumption | omega | exact RegOk.mk (by decide +kernel) | exact RegCl.mk (by decide +kernel) | exact RegNo.mk (by kernel_rfl)) only [go_sem, seval, hls, hw1, hw2]
      refine ⟨n + 1, by omega, by show 16 - (n + 1) < 16 - n; omega, ?_, ?_⟩
      · simp (maxSteps := 3000000) (disch := first | exact trivial | assumption | omega | exact RegOk.mk (by decide +kernel) | exact RegCl.mk (by decide +kernel) | exact RegNo.mk (by kernel_rfl)) only [go_sem, seval]
        exact LeV.of_eq (by congr 1)
      · simp (maxSteps := 3000000) (disch := first | exact trivial | assumption | omega | exact RegOk.mk (by decide +kernel) | exact RegCl.mk (by decide +kernel) | exact RegNo.mk (by kernel_rfl)) only [go_sem, seval]
        exact ⟨LeV.of_eq (by rw [sch0, wAt, hz0, shl4]), fun _ _ => trivial⟩
    subst h
    simp (maxSteps := 3000000) (disch := first | exact trivial | assumption | omega | exact RegOk.mk (by decide +kernel) | exact RegCl.mk (by decide +kernel) | exact RegNo.mk (by kernel_rfl)) only [go_sem, seval]
    refine AL.of (fun n : Nat => n ≤ 48) (fun n => 48 - n) (fun n => [(2, .ad 0 0), (5, .sl 1 V 0 p.length), (8, .ad 3 0), (9, .int .i64 (64 * (j : Int))), (10, .ad 4 0), (13, .int .i64 ((n + 16 : Nat) : Int))])
      (fun n => [(4, .var true 64 (.agg ((sch1 b n).map wD))), (3, .var true 8 (.agg ((stt p j).l.map wD))), (1, .row false V false 1 p.length (bR p)), (0, .var true 72 (.agg (W.map wD)))]) 0 (by omega) ?_ ?_ ?_ ?_
    · simp (maxSteps := 3000000) (disch := first | exact trivial | assumption | omega | exact RegOk.mk (by decide +kernel) | exact RegCl.mk (by decide +kernel) | exact RegNo.mk (by kernel_rfl)) only [go_sem, seval]
    · simp (maxSteps := 3000000) (disch := first | exact trivial | assumption | omega | exact RegOk.mk (by decide +kernel) | exact RegCl.mk (by decide +kernel) | exact RegNo.mk (by kernel_rfl)) only [go_sem, seval]
      exact ⟨LeV.of_eq rfl, fun _ _ => trivial⟩
    · intro x _; simp (maxSteps := 3000000) (disch := first | exact trivial | assumption | omega | exact RegOk.mk (by decide +kernel) | exact RegCl.mk (by decide +kernel) | exact RegNo.mk (by kernel_rfl)) only [go_sem, seval]
    intro n hn
    have hl := sch1_len b n
    by_cases h : n = 48
    case neg =>
      have hd : decide (((n + 16 : Nat) : Int) < 64) = true := by rw [decide_eq_true_eq]; omega
      have e0 : (((n + 16 : Nat) : Int) - 15).toNat = n + 1 := by omega
      have e1 : (((n + 16 : Nat) : Int) - 2).toNat = n + 14 := by omega
      have e2 : (((n + 16 : Nat) : Int) - 16).toNat = n := by omega
      have e3 : (((n + 16 : Nat) : Int) - 7).toNat = n + 9 := by omega
      simp (maxSteps := 3000000) (disch := first | exact trivial | assumption | omega | exact RegOk.mk (by decide +kernel) | exact RegCl.mk (by decide +kernel) | exact RegNo.mk (by kernel_rfl)) only [go_sem, seval, hd, e0, e1]
      refine callCl (r2_turn _ 7 (by omega) (by omega)) (LesV.refl _) rfl ?_
      simp (maxSteps := 3000000) (disch := first | exact trivial | assumption | omega | exact RegOk.mk (by decide +kernel) | exact RegCl.mk (by decide +kernel) | exact RegNo.mk (by kernel_rfl)) only [go_sem, seval]
      refine callCl (r2_turn _ 18 (by omega) (by omega)) (LesV.refl _) rfl ?_
      simp (maxSteps := 3000000) (disch := first | exact trivial | assumption | omega | exact RegOk.mk (by decide +kernel) | exact RegCl.mk (by decide +kernel) | exact RegNo.mk (by kernel_rfl)) only [go_sem, seval, e2, e3]
      refine callCl (r2_turn _ 17 (by omega) (by omega)) (LesV.refl _) rfl ?_
      simp (maxSteps := 3000000) (disch := first | exact trivial | assumption | omega | exact RegOk.mk (by decide +kernel) | exact RegCl.mk (by decide +kernel) | exact RegNo.mk (by kernel_rfl)) only [go_sem, seval, e2, e3]
      refine callCl (r2_turn _ 19 (by omega) (by omega)) (LesV.refl _) rfl ?_
      simp (maxSteps := 3000000) (disch := first | exact trivial | assumption | omega | exact RegOk.mk (by decide +kernel) | exact RegCl.mk (by decide +kernel) | exact RegNo.mk (by kernel_rfl)) only [go_sem, seval, e2, e3]
      refine ⟨n + 1, by omega, by show 48 - (n + 1) < 48 - n; omega, ?_, ?_⟩
      · simp (maxSteps := 3000000) (disch := first | exact trivial | assumption | omega | exact RegOk.mk (by decide +kernel) | exact RegCl.mk (by decide +kernel) | exact RegNo.mk (by kernel_rfl)) only [go_sem, seval]
        exact LeV.of_eq (by congr 1)
      · simp (maxSteps := 3000000) (disch := first | exact trivial | assumption | omega | exact RegOk.mk (by decide +kernel) | exact RegCl.mk (by decide +kernel) | exact RegNo.mk (by kernel_rfl)) only [go_sem, seval]
        exact ⟨LeV.of_eq (by rw [sch1, sg0, sg1]; rfl), fun _ _ => trivial⟩
    subst h
    have hsl : (sched b).length = 64 := sched_len b
    have hsd : sch1 b 48 = sched b := by rw [sched]
    rw [hsd] at hl
    simp (maxSteps := 3000000) (disch := first | exact trivial | assumption | omega | exact RegOk.mk (by decide +kernel) | exact RegCl.mk (by decide +kernel) | exact RegNo.mk (by kernel_rfl)) only [go_sem, seval, hsd, hsl]
    refine ⟨rfl, ?_⟩
    refine AL.of (fun x : Nat × W8 => x.1 ≤ 64 ∧ x.2 = rnds (stt p j) (sched b) x.1) (fun x => 64 - x.1)
      (fun x => [(2, .ad 0 0), (5, .sl 1 V 0 p.length), (8, .ad 3 0), (9, .int .i64 (64 * (j : Int))), (10, .ad 4 0), (16, .ad 5 0), (17, .int .i64 x.1)])
      (fun x => [(5, .var true 8 x.2.D), (4, .var true 64 (.agg ((sched b).map wD))), (3, .var true 8 (.agg ((stt p j).l.map wD))), (1, .row false V false 1 p.length (bR p)), (0, .var true 72 (.agg (W.map wD)))]) (0, stt p j) ⟨by omega, rfl⟩ ?_ ?_ ?_ ?_
    · simp (maxSteps := 3000000) (disch := first | exact trivial | assumption | omega | exact RegOk.mk (by decide +kernel) | exact RegCl.mk (by decide +kernel) | exact RegNo.mk (by kernel_rfl)) only [go_sem, seval]
    · simp (maxSteps := 3000000) (disch := first | exact trivial | assumption | omega | exact RegOk.mk (by decide +kernel) | exact RegCl.mk (by decide +kernel) | exact RegNo.mk (by kernel_rfl)) only [go_sem, seval]
      exact ⟨LeV.of_eq (W8.D_l _).symm, fun _ _ => trivial⟩
    · intro x _; simp (maxSteps := 3000000) (disch := first | exact trivial | assumption | omega | exact RegOk.mk (by decide +kernel) | exact RegCl.mk (by decide +kernel) | exact RegNo.mk (by kernel_rfl)) only [go_sem, seval]
    rintro ⟨n, v⟩ ⟨hn, hv⟩
    simp only at hn hv
    by_cases h : n = 64
    case neg =>
      have hd : decide ((n : Int) < 64) = true := by rw [decide_eq_true_eq]; omega
      have hK : W.getD (8 + n) 0#32 = K256.getD n 0#32 := hWK n
      simp (maxSteps := 3000000) (disch := first | exact trivial | assumption | omega | exact RegOk.mk (by decide +kernel) | exact RegCl.mk (by decide +kernel) | exact RegNo.mk (by kernel_rfl)) only [go_sem, seval, hd, W8.D]
      refine callCl (r2_turn _ 6 (by omega) (by omega)) (LesV.refl _) rfl ?_
      simp (maxSteps := 3000000) (disch := first | exact trivial | assumption | omega | exact RegOk.mk (by decide +kernel) | exact RegCl.mk (by decide +kernel) | exact RegNo.mk (by kernel_rfl)) only [go_sem, seval, W8.D, hsl, hWl, hK]
      refine callCl (r2_turn _ 11 (by omega) (by omega)) (LesV.refl _) rfl ?_
      simp (maxSteps := 3000000) (disch := first | exact trivial | assumption | omega | exact RegOk.mk (by decide +kernel) | exact RegCl.mk (by decide +kernel) | exact RegNo.mk (by kernel_rfl)) only [go_sem, seval, W8.D, hsl, hWl, hK]
      refine callCl (r2_turn _ 25 (by omega) (by omega)) (LesV.refl _) rfl ?_
      simp (maxSteps := 3000000) (disch := first | exact trivial | assumption | omega | exact RegOk.mk (by decide +kernel) | exact RegCl.mk (by decide +kernel) | exact RegNo.mk (by kernel_rfl)) only [go_sem, seval, W8.D, hsl, hWl, hK]
      refine callCl (r2_turn _ 2 (by omega) (by omega)) (LesV.refl _) rfl ?_
      simp (maxSteps := 3000000) (disch := first | exact trivial | assumption | omega | exact RegOk.mk (by decide +kernel) | exact RegCl.mk (by decide +kernel) | exact RegNo.mk (by kernel_rfl)) only [go_sem, seval, W8.D, hsl, hWl, hK]
      refine callCl (r2_turn _ 13 (by omega) (by omega)) (LesV.refl _) rfl ?_
      simp (maxSteps := 3000000) (disch := first | exact trivial | assumption | omega | exact RegOk.mk (by decide +kernel) | exact RegCl.mk (by decide +kernel) | exact RegNo.mk (by kernel_rfl)) only [go_sem, seval, W8.D, hsl, hWl, hK]
      refine callCl (r2_turn _ 22 (by omega) (by omega)) (LesV.refl _) rfl ?_
      simp (maxSteps := 3000000) (disch := first | exact trivial | assumption | omega | exact RegOk.mk (by decide +kernel) | exact RegCl.mk (by decide +kernel) | exact RegNo.mk (by kernel_rfl)) only [go_sem, seval, W8.D, hsl, hWl, hK]
      refine ⟨(n + 1, rnd1 v (K256.getD n 0#32) ((sched b).getD n 0#32)), ⟨by show n + 1 ≤ 64; omega, by rw [hv]; rfl⟩, by show 64 - (n + 1) < 64 - n; omega, ?_, ?_⟩
      · simp (maxSteps := 3000000) (disch := first | exact trivial | assumption | omega | exact RegOk.mk (by decide +kernel) | exact RegCl.mk (by decide +kernel) | exact RegNo.mk (by kernel_rfl)) only [go_sem, seval, W8.D]
        exact LeV.of_eq (by congr 1)
      · simp (maxSteps := 3000000) (disch := first | exact trivial | assumption | omega | exact RegOk.mk (by decide +kernel) | exact RegCl.mk (by decide +kernel) | exact RegNo.mk (by kernel_rfl)) only [go_sem, seval, W8.D, rnd1]
        exact fun _ _ => trivial
    subst h
    simp (maxSteps := 3000000) (disch := first | exact trivial | assumption | omega | exact RegOk.mk (by decide +kernel) | exact RegCl.mk (by decide +kernel) | exact RegNo.mk (by kernel_rfl)) only [go_sem, seval, W8.D, W8.l]
    refine AL.step ?_
    simp (maxSteps := 3000000) (disch := first | exact trivial | assumption | omega | exact RegOk.mk (by decide +kernel) | exact RegCl.mk (by decide +kernel) | exact RegNo.mk (by kernel_rfl)) only [go_sem, seval, W8.D, W8.l]
    refine AL.step ?_
    simp (maxSteps := 3000000) (disch := first | exact trivial | assumption | omega | exact RegOk.mk (by decide +kernel) | exact RegCl.mk (by decide +kernel) | exact RegNo.mk (by kernel_rfl)) only [go_sem, seval, W8.D, W8.l]
    refine AL.step ?_
    simp (maxSteps := 3000000) (disch := first | exact trivial | assumption | omega | exact RegOk.mk (by decide +kernel) | exact RegCl.mk (by decide +kernel) | exact RegNo.mk (by kernel_rfl)) only [go_sem, seval, W8.D, W8.l]
    refine AL.step ?_
    simp (maxSteps := 3000000) (disch := first | exact trivial | assumption | omega | exact RegOk.mk (by decide +kernel) | exact RegCl.mk (by decide +kernel) | exact RegNo.mk (by kernel_rfl)) only [go_sem, seval, W8.D, W8.l]
    refine AL.step ?_
    simp (maxSteps := 3000000) (disch := first | exact trivial | assumption | omega | exact RegOk.mk (by decide +kernel) | exact RegCl.mk (by decide +kernel) | exact RegNo.mk (by kernel_rfl)) only [go_sem, seval, W8.D, W8.l]
    refine AL.step ?_
    simp (maxSteps := 3000000) (disch := first | exact trivial | assumption | omega | exact RegOk.mk (by decide +kernel) | exact RegCl.mk (by decide +kernel) | exact RegNo.mk (by kernel_rfl)) only [go_sem, seval, W8.D, W8.l]
    refine AL.step ?_
    simp (maxSteps := 3000000) (disch := first | exact trivial | assumption | omega | exact RegOk.mk (by decide +kernel) | exact RegCl.mk (by decide +kernel) | exact RegNo.mk (by kernel_rfl)) only [go_sem, seval, W8.D, W8.l]
    refine AL.step ?_
    simp (maxSteps := 3000000) (disch := first | exact trivial | assumption | omega | exact RegOk.mk (by decide +kernel) | exact RegCl.mk (by decide +kernel) | exact RegNo.mk (by kernel_rfl)) only [go_sem, seval, W8.D, W8.l]
    refine AL.step ?_
    simp (maxSteps := 3000000) (disch := first | exact trivial | assumption | omega | exact RegOk.mk (by decide +kernel) | exact RegCl.mk (by decide +kernel) | exact RegNo.mk (by kernel_rfl)) only [go_sem, seval, W8.D, W8.l]
    refine ⟨j + 1, by omega, by show p.length - 64 * (j + 1) < p.length - 64 * j; omega, ?_, ?_⟩
    · simp (maxSteps := 3000000) (disch := first | exact trivial | assumption | omega | exact RegOk.mk (by decide +kernel) | exact RegCl.mk (by decide +kernel) | exact RegNo.mk (by kernel_rfl)) only [go_sem, seval]
      exact LeV.of_eq (by congr 1)
    · simp (maxSteps := 3000000) (disch := first | exact trivial | assumption | omega | exact RegOk.mk (by decide +kernel) | exact RegCl.mk (by decide +kernel) | exact RegNo.mk (by kernel_rfl)) only [go_sem, seval, stt, W8.l, mix, W8.add, ← hv, hbk]
      exact fun _ _ => trivial
  case neg =>
    have hd : decide (64 * (j : Int) < (p.length : Int)) = false := by rw [decide_eq_false_iff_not]; omega
    obtain rfl : j = p.length / 64 := by omega
    simp (maxSteps := 3000000) (disch := first | exact trivial | assumption | omega | exact RegOk.mk (by decide +kernel) | exact RegCl.mk (by decide +kernel) | exact RegNo.mk (by kernel_rfl)) only [go_sem, seval, hd]
    generalize stt p (p.length / 64) = v
    have hv : v.l.length = 8 := rfl
    refine AL.step ?_
    simp (maxSteps := 3000000) (disch := first | exact trivial | assumption | omega | exact RegOk.mk (by decide +kernel) | exact RegCl.mk (by decide +kernel) | exact RegNo.mk (by kernel_rfl)) only [go_sem, seval, hv, wl_getD]
    refine ⟨.inl trivial, .inr trivial, ?_⟩
    refine AL.of (fun j : Nat => j ≤ 7) (fun j => 7 - j) (fun j => [(8, .ad 3 0), (23, .sl 5 j 0 (4 * (j + 1))), (24, .int .i64 ((j : Int) + 1))])
      (fun j => [(5, .row false j false 1 (4 * (j + 1)) (bR (outs v (j + 1)))), (3, .var true 8 (.agg (v.l.map wD)))]) 0 (by omega) ?_ ?_ ?_ ?_
    · simp (maxSteps := 3000000) (disch := first | exact trivial | assumption | omega | exact RegOk.mk (by decide +kernel) | exact RegCl.mk (by decide +kernel) | exact RegNo.mk (by kernel_rfl)) only [go_sem, seval]
    · simp (maxSteps := 3000000) (disch := first | exact trivial | assumption | omega | exact RegOk.mk (by decide +kernel) | exact RegCl.mk (by decide +kernel) | exact RegNo.mk (by kernel_rfl)) only [go_sem, seval]
      intro i hi
      have := bR_app [] (wb (v.l.getD 0 0)) (i := i) (by simpa [wb] using hi)
      rw [if_neg (by simp), wb_map] at this
      rw [outs_succ v 0 (by omega)]
      exact Le.of_eq this
    · intro x _; simp (maxSteps := 3000000) (disch := first | exact trivial | assumption | omega | exact RegOk.mk (by decide +kernel) | exact RegCl.mk (by decide +kernel) | exact RegNo.mk (by kernel_rfl)) only [go_sem, seval]
    intro j hj
    by_cases h : j = 7
    case neg =>
      have hd : decide ((j : Int) + 1 < 8) = true := by rw [decide_eq_true_eq]; omega
      have hj1 : ((j : Int) + 1).toNat = j + 1 := by omega
      simp (maxSteps := 3000000) (disch := first | exact trivial | assumption | omega | exact RegOk.mk (by decide +kernel) | exact RegCl.mk (by decide +kernel) | exact RegNo.mk (by kernel_rfl)) only [go_sem, seval, hd, hv, wl_getD, hj1]
      refine ⟨.inl trivial, .inr trivial, by omega, by omega, j + 1, by omega, by show 7 - (j + 1) < 7 - j; omega, ?_, ?_⟩
      · simp (maxSteps := 3000000) (disch := first | exact trivial | assumption | omega | exact RegOk.mk (by decide +kernel) | exact RegCl.mk (by decide +kernel) | exact RegNo.mk (by kernel_rfl)) only [go_sem, seval]
        exact ⟨LeV.of_eq (by rw [show 4 * (j + 1) + 4 = 4 * (j + 1 + 1) by omega]), LeV.of_eq (by rw [Int.natCast_succ])⟩
      · simp (maxSteps := 3000000) (disch := first | exact trivial | assumption | omega | exact RegOk.mk (by decide +kernel) | exact RegCl.mk (by decide +kernel) | exact RegNo.mk (by kernel_rfl)) only [go_sem, seval]
        refine ⟨by omega, fun i hi => Le.of_eq ?_⟩
        have hlen := outs_len v (j + 1) (by omega)
        have := bR_app (outs v (j + 1)) (wb (v.l.getD (j + 1) 0)) (i := i) (by rw [List.length_append, hlen]; simpa [wb] using hi)
        rw [hlen, wb_map] at this
        rw [outs_succ v (j + 1) (by omega)]
        exact this
    subst h
    simp (maxSteps := 3000000) (disch := first | exact trivial | assumption | omega | exact RegOk.mk (by decide +kernel) | exact RegCl.mk (by decide +kernel) | exact RegNo.mk (by kernel_rfl)) only [go_sem, seval]
    rw [bstr_bR rfl (outs_len v 8 (by omega)).symm]
    simp (maxSteps := 3000000) (disch := first | exact trivial | assumption | omega | exact RegOk.mk (by decide +kernel) | exact RegCl.mk (by decide +kernel) | exact RegNo.mk (by kernel_rfl)) only [go_sem, seval]
end Go.Proofs.YtpobbfhdkbnpmaaDoor.Lv
