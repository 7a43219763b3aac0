/- SHA-256: the digest. -/
import Derived.Test.YtpobbfhdkbnpmaaDoorSD
import Derived.Test.YtpobbfhdkbnpmaaDoorSE
set_option linter.unusedVariables false
set_option linter.unusedSimpArgs false
set_option maxRecDepth 100000
set_option maxHeartbeats 4000000
namespace Go.Proofs.YtpobbfhdkbnpmaaDoor.Lv
open Go Go.RowKit

def H0 : W8 := ⟨0x6a09e667, 0xbb67ae85, 0x3c6ef372, 0xa54ff53a, 0x510e527f, 0x9b05688c, 0x1f83d9ab, 0x5be0cd19⟩
def cut64 (p : List UInt8) (j : Nat) : List UInt8 := (p.drop (64 * j)).take 64
def stt (p : List UInt8) : Nat → W8
  | 0 => H0
  | j + 1 => mix (stt p j) (cut64 p j)
def W8.l (s : W8) : List W32 := [s.a, s.b, s.c, s.d, s.e, s.f, s.g, s.h]
theorem W8.D_l (s : W8) : s.D = .agg (s.l.map wD) := Eq.trans rfl rfl
def wb (x : W32) : List UInt8 := [bW (x >>> 24), bW (x >>> 16), bW (x >>> 8), bW x]
def outs (s : W8) (k : Nat) : List UInt8 := (s.l.take k).flatMap wb
def sha (s : List UInt8) : List UInt8 := outs (stt (pad s) ((pad s).length / 64)) 8
theorem pad_len (s : List UInt8) : (pad s).length % 64 = 0 ∧ (pad s).length < s.length + 80 := by
  have : (pad s).length = s.length + 9 + zer s.length := by simp [pad, be_length]; omega
  rw [this]; unfold zer; omega
theorem cut64_len (p : List UInt8) (j : Nat) (h : 64 * j < p.length) (hm : p.length % 64 = 0) : (cut64 p j).length = 64 := by
  simp [cut64]; omega
theorem D_H0 : (D.agg [.int .u32 1779033703, .int .u32 3144134277, .int .u32 1013904242, .int .u32 2773480762, .int .u32 1359893119, .int .u32 2600822924, .int .u32 528734635, .int .u32 1541459225]) = H0.D := by
  simp [W8.D, H0, wD]
theorem outs_succ (s : W8) (k : Nat) (h : k < 8) : outs s (k + 1) = outs s k ++ wb (s.l.getD k 0) := by
  have h' : k < s.l.length := h
  rw [outs, outs, List.take_add_one, List.flatMap_append, List.getElem?_eq_getElem h', List.getD_eq_getElem?_getD, List.getElem?_eq_getElem h']
  simp
theorem outs_len (s : W8) : ∀ k, k ≤ 8 → (outs s k).length = 4 * k
  | 0, _ => rfl
  | k + 1, h => by rw [outs_succ s k (by omega), List.length_append, outs_len s k (by omega)]; simp [wb]; omega
theorem wb_map (x : W32) : ((wb x).map fun c => D.int .u8 (c.toNat : Int)) = [.int .u8 ((bW (x >>> 24)).toNat : Int), .int .u8 ((bW (x >>> 16)).toNat : Int), .int .u8 ((bW (x >>> 8)).toNat : Int), .int .u8 ((bW x).toNat : Int)] := rfl
theorem sha_Sum (l : List (List UInt8)) (h : l.length ≤ 140737488355328) (hl : l.flatten.length < 1099511627776) : C E 14 [.ro false 1 l.length (tR l)] (.str (sha l.flatten)) := by
  refine CG_intro Tryd.func14 rfl (by kernel_rfl) rfl (by kernel_rfl) (by kernel_rfl) rfl ?_
  simp (maxSteps := 3000000) (disch := first | exact trivial | assumption | omega | exact RegOk.mk (by decide +kernel) | exact RegCl.mk (by decide +kernel) | exact RegNo.mk (by kernel_rfl)) only [go_sem, seval]
  refine callC (strings_Join l h (by omega)) (LesV.refl _) rfl ?_
  simp (maxSteps := 3000000) (disch := first | exact trivial | assumption | omega | exact RegOk.mk (by decide +kernel) | exact RegCl.mk (by decide +kernel) | exact RegNo.mk (by kernel_rfl)) only [go_sem, seval]
  refine callC (sha_padded _ hl) (LesV.refl _) rfl ?_
  simp (maxSteps := 3000000) (disch := first | exact trivial | assumption | omega | exact RegOk.mk (by decide +kernel) | exact RegCl.mk (by decide +kernel) | exact RegNo.mk (by kernel_rfl)) only [go_sem, seval]
  obtain ⟨hm, hp⟩ := pad_len l.flatten
  generalize hP : pad l.flatten = p at hm hp
  have hs : sha l.flatten = outs (stt p (p.length / 64)) 8 := by rw [sha, hP]
  rw [hs]
  refine AL.of (fun j : Nat => 64 * j ≤ p.length) (fun j => p.length - 64 * j) (fun j => [(3, .ad 0 0), (4, .str p), (5, .int .i64 (64 * (j : Int)))])
    (fun j => [(0, .var true 8 (stt p j).D)]) 0 (by omega) ?_ ?_ ?_ ?_
  · simp (maxSteps := 3000000) (disch := first | exact trivial | assumption | omega | exact RegOk.mk (by decide +kernel) | exact RegCl.mk (by decide +kernel) | exact RegNo.mk (by kernel_rfl)) only [go_sem, seval]
  · simp (maxSteps := 3000000) (disch := first | exact trivial | assumption | omega | exact RegOk.mk (by decide +kernel) | exact RegCl.mk (by decide +kernel) | exact RegNo.mk (by kernel_rfl)) only [go_sem, seval, stt]
    rw [D_H0, LeV_self]; trivial
  · intro x _; simp (maxSteps := 3000000) (disch := first | exact trivial | assumption | omega | exact RegOk.mk (by decide +kernel) | exact RegCl.mk (by decide +kernel) | exact RegNo.mk (by kernel_rfl)) only [go_sem, seval]
  intro j hj
  by_cases h : 64 * j < p.length
  case pos =>
    have hd : decide (64 * (j : Int) < (p.length : Int)) = true := by rw [decide_eq_true_eq]; omega
    simp (maxSteps := 3000000) (disch := first | exact trivial | assumption | omega | exact RegOk.mk (by decide +kernel) | exact RegCl.mk (by decide +kernel) | exact RegNo.mk (by kernel_rfl)) only [go_sem, seval, hd]
    have hcut : List.drop (64 * (j : Int)).toNat (List.take (64 * (j : Int) + 64).toNat p) = cut64 p j := by
      rw [cut64, show (64 * (j : Int)).toNat = 64 * j by omega, show (64 * (j : Int) + 64).toNat = 64 * j + 64 by omega, List.drop_take, Nat.add_sub_cancel_left]
    rw [hcut]
    refine callCl (sha_mixed _ _ (cut64_len p j h hm)) (LesV.refl _) rfl ?_
    simp (maxSteps := 3000000) (disch := first | exact trivial | assumption | omega | exact RegOk.mk (by decide +kernel) | exact RegCl.mk (by decide +kernel) | exact RegNo.mk (by kernel_rfl)) only [go_sem, seval, W8.D]
    refine ⟨j + 1, by omega, by show p.length - 64 * (j + 1) < p.length - 64 * j; omega, ?_, ?_⟩
    · simp (maxSteps := 3000000) (disch := first | exact trivial | assumption | omega | exact RegOk.mk (by decide +kernel) | exact RegCl.mk (by decide +kernel) | exact RegNo.mk (by kernel_rfl)) only [go_sem, seval]
      exact LeV.of_eq (by rw [show (64 * (j : Int) + 64) = 64 * ((j + 1 : Nat) : Int) by omega])
    · simp (maxSteps := 3000000) (disch := first | exact trivial | assumption | omega | exact RegOk.mk (by decide +kernel) | exact RegCl.mk (by decide +kernel) | exact RegNo.mk (by kernel_rfl)) only [go_sem, seval, stt]
  case neg =>
    have hd : decide (64 * (j : Int) < (p.length : Int)) = false := by rw [decide_eq_false_iff_not]; omega
    obtain rfl : j = p.length / 64 := by omega
    simp (maxSteps := 3000000) (disch := first | exact trivial | assumption | omega | exact RegOk.mk (by decide +kernel) | exact RegCl.mk (by decide +kernel) | exact RegNo.mk (by kernel_rfl)) only [go_sem, seval, hd, W8.D_l]
    generalize stt p (p.length / 64) = v
    have hv : v.l.length = 8 := rfl
    refine AL.step ?_
    simp (maxSteps := 3000000) (disch := first | exact trivial | assumption | omega | exact RegOk.mk (by decide +kernel) | exact RegCl.mk (by decide +kernel) | exact RegNo.mk (by kernel_rfl)) only [go_sem, seval, hv, wl_getD]
    refine ⟨.inl trivial, .inr trivial, ?_⟩
    refine AL.of (fun j : Nat => j ≤ 7) (fun j => 7 - j) (fun j => [(6, .sl 2 j 0 (4 * (j + 1))), (26, .agg (v.l.map wD)), (27, .int .i64 ((j : Int) + 1))])
      (fun j => [(2, .row false j false 1 (4 * (j + 1)) (bR (outs v (j + 1))))]) 0 (by omega) ?_ ?_ ?_ ?_
    · simp (maxSteps := 3000000) (disch := first | exact trivial | assumption | omega | exact RegOk.mk (by decide +kernel) | exact RegCl.mk (by decide +kernel) | exact RegNo.mk (by kernel_rfl)) only [go_sem, seval]
    · simp (maxSteps := 3000000) (disch := first | exact trivial | assumption | omega | exact RegOk.mk (by decide +kernel) | exact RegCl.mk (by decide +kernel) | exact RegNo.mk (by kernel_rfl)) only [go_sem, seval]
      intro i hi
      have := bR_app [] (wb (v.l.getD 0 0)) (i := i) (by simpa [wb] using hi)
      rw [if_neg (by simp), wb_map] at this
      rw [outs_succ v 0 (by omega)]
      exact Le.of_eq this
    · intro x _; simp (maxSteps := 3000000) (disch := first | exact trivial | assumption | omega | exact RegOk.mk (by decide +kernel) | exact RegCl.mk (by decide +kernel) | exact RegNo.mk (by kernel_rfl)) only [go_sem, seval]
    intro j hj
    by_cases h : j = 7
    case neg =>
      have hd : decide ((j : Int) + 1 < 8) = true := by rw [decide_eq_true_eq]; omega
      have hj1 : ((j : Int) + 1).toNat = j + 1 := by omega
      simp (maxSteps := 3000000) (disch := first | exact trivial | assumption | omega | exact RegOk.mk (by decide +kernel) | exact RegCl.mk (by decide +kernel) | exact RegNo.mk (by kernel_rfl)) only [go_sem, seval, hd, hv, wl_getD, hj1]
      refine ⟨.inl trivial, .inr trivial, by omega, by omega, j + 1, by omega, by show 7 - (j + 1) < 7 - j; omega, ?_, ?_⟩
      · simp (maxSteps := 3000000) (disch := first | exact trivial | assumption | omega | exact RegOk.mk (by decide +kernel) | exact RegCl.mk (by decide +kernel) | exact RegNo.mk (by kernel_rfl)) only [go_sem, seval]
        exact ⟨LeV.of_eq (by rw [show 4 * (j + 1) + 4 = 4 * (j + 1 + 1) by omega]), LeV.of_eq (by rw [Int.natCast_succ])⟩
      · simp (maxSteps := 3000000) (disch := first | exact trivial | assumption | omega | exact RegOk.mk (by decide +kernel) | exact RegCl.mk (by decide +kernel) | exact RegNo.mk (by kernel_rfl)) only [go_sem, seval]
        refine ⟨by omega, fun i hi => Le.of_eq ?_⟩
        have hlen := outs_len v (j + 1) (by omega)
        have := bR_app (outs v (j + 1)) (wb (v.l.getD (j + 1) 0)) (i := i) (by rw [List.length_append, hlen]; simpa [wb] using hi)
        rw [hlen, wb_map] at this
        rw [outs_succ v (j + 1) (by omega)]
        exact this
    subst h
    simp (maxSteps := 3000000) (disch := first | exact trivial | assumption | omega | exact RegOk.mk (by decide +kernel) | exact RegCl.mk (by decide +kernel) | exact RegNo.mk (by kernel_rfl)) only [go_sem, seval]
    rw [bstr_bR rfl (outs_len v 8 (by omega)).symm]
    simp (maxSteps := 3000000) (disch := first | exact trivial | assumption | omega | exact RegOk.mk (by decide +kernel) | exact RegCl.mk (by decide +kernel) | exact RegNo.mk (by kernel_rfl)) only [go_sem, seval]
end Go.Proofs.YtpobbfhdkbnpmaaDoor.Lv
