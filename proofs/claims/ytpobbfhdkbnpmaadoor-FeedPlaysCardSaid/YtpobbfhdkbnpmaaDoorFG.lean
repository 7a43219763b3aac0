/- The reference's table: prime, Table. -/
import Derived.Test.YtpobbfhdkbnpmaaDoorFF
import Derived.Test.YtpobbfhdkbnpmaaDoorSF
set_option linter.unusedVariables false
set_option linter.unusedSimpArgs false
set_option maxRecDepth 100000
set_option maxHeartbeats 4000000
namespace Go.Proofs.YtpobbfhdkbnpmaaDoor.Lv
open Go Go.RowKit

def prL (n i : Nat) : Nat → Bool
  | 0 => false
  | f + 1 => if i * i ≤ n then (if n % i = 0 then false else prL n (i + 1) f) else decide (1 < n)
def pr (n : Nat) : Bool := prL n 2 38
theorem r2_prime {n : Nat} (hn : n < 1024) : C E 43 [.int .i64 n] (.bool (pr n)) := by
  refine CG_intro Tryd.func43 rfl (by kernel_rfl) rfl (by kernel_rfl) (by kernel_rfl) rfl ?_
  simp (maxSteps := 3000000) (disch := first | exact trivial | assumption | omega | exact RegOk.mk (by decide +kernel) | exact RegCl.mk (by decide +kernel) | exact RegNo.mk (by kernel_rfl)) only [go_sem, seval]
  refine AL.of (fun i : Nat => 2 ≤ i ∧ i ≤ 32 ∧ prL n i (40 - i) = pr n) (fun i => 33 - i) (fun i => [(0, .int .i64 n), (3, .int .i64 i)]) (fun _ => []) 2 ⟨by omega, by omega, rfl⟩ ?_ ?_ ?_ ?_
  · simp (maxSteps := 3000000) (disch := first | exact trivial | assumption | omega | exact RegOk.mk (by decide +kernel) | exact RegCl.mk (by decide +kernel) | exact RegNo.mk (by kernel_rfl)) only [go_sem, seval]
  · simp (maxSteps := 3000000) (disch := first | exact trivial | assumption | omega | exact RegOk.mk (by decide +kernel) | exact RegCl.mk (by decide +kernel) | exact RegNo.mk (by kernel_rfl)) only [go_sem, seval]
  · intro x _; simp (maxSteps := 3000000) (disch := first | exact trivial | assumption | omega | exact RegOk.mk (by decide +kernel) | exact RegCl.mk (by decide +kernel) | exact RegNo.mk (by kernel_rfl)) only [go_sem, seval]
  rintro i ⟨h1, h2, h3⟩
  have hii : (i : Int) * (i : Int) = ((i * i : Nat) : Int) := (Int.natCast_mul _ _).symm
  have hle : i * i ≤ 1024 := Nat.mul_le_mul h2 h2
  rw [show 40 - i = (39 - i) + 1 by omega, prL] at h3
  by_cases hc : i * i ≤ n
  · rw [if_pos hc] at h3
    have hd : decide (((i * i : Nat) : Int) ≤ (n : Int)) = true := by rw [decide_eq_true_eq]; omega
    have ht : (n : Int).tmod (i : Int) = ((n % i : Nat) : Int) := by rw [Int.tmod_eq_emod_of_nonneg (by omega), Int.natCast_emod]
    have hi31 : i ≤ 31 := by
      by_cases h : i = 32
      · subst h; omega
      · omega
    by_cases h0 : n % i = 0
    · rw [if_pos h0] at h3
      have hz : (((n % i : Nat) : Int) == 0) = true := by rw [h0]; rfl
      simp (maxSteps := 3000000) (disch := first | exact trivial | assumption | omega | exact RegOk.mk (by decide +kernel) | exact RegCl.mk (by decide +kernel) | exact RegNo.mk (by kernel_rfl)) only [go_sem, seval, hii, hd, ht, hz]
      exact LeV.of_eq (by rw [h3])
    · rw [if_neg h0] at h3
      have hz : (((n % i : Nat) : Int) == 0) = false := by rw [beq_eq_false_iff_ne]; omega
      simp (maxSteps := 3000000) (disch := first | exact trivial | assumption | omega | exact RegOk.mk (by decide +kernel) | exact RegCl.mk (by decide +kernel) | exact RegNo.mk (by kernel_rfl)) only [go_sem, seval, hii, hd, ht, hz]
      refine ⟨i + 1, ⟨by omega, by omega, by rw [show 40 - (i + 1) = 39 - i by omega]; exact h3⟩, by show 33 - (i + 1) < 33 - i; omega, ?_, ?_⟩
      · simp (maxSteps := 3000000) (disch := first | exact trivial | assumption | omega | exact RegOk.mk (by decide +kernel) | exact RegCl.mk (by decide +kernel) | exact RegNo.mk (by kernel_rfl)) only [go_sem, seval]
        exact LeV.of_eq (by congr 1)
      · simp (maxSteps := 3000000) (disch := first | exact trivial | assumption | omega | exact RegOk.mk (by decide +kernel) | exact RegCl.mk (by decide +kernel) | exact RegNo.mk (by kernel_rfl)) only [go_sem, seval]
  · rw [if_neg hc] at h3
    have hd : decide (((i * i : Nat) : Int) ≤ (n : Int)) = false := by rw [decide_eq_false_iff_not]; omega
    simp (maxSteps := 3000000) (disch := first | exact trivial | assumption | omega | exact RegOk.mk (by decide +kernel) | exact RegCl.mk (by decide +kernel) | exact RegNo.mk (by kernel_rfl)) only [go_sem, seval, hii, hd]
    exact LeV.of_eq (by rw [← h3]; congr 1; rw [decide_eq_decide]; omega)
def w32 (n : Nat) : W32 := BitVec.ofNat 32 n
/-- The primes below, in their order. -/
def prs (p : Nat) : List Nat := (List.range p).filter pr
def tabK (p : Nat) : List W32 := ((prs p).map fun q => w32 (fr q 3 37)) ++ List.replicate (64 - (prs p).length) 0
def tabH (p : Nat) : List W32 := (((prs p).take 8).map fun q => w32 (fr q 2 37)) ++ List.replicate (8 - (prs p).length) 0
theorem prs_312 : (prs 312).length = 64 := by decide +kernel
theorem tabK_312 : tabK 312 = K256 := by decide +kernel
theorem tabH_312 : tabH 312 = H0.l := by decide +kernel
theorem prs_311 : (prs 311).length = 63 := by decide +kernel
theorem prs_mono {p q : Nat} (h : p ≤ q) : (prs p).length ≤ (prs q).length := ((List.range_sublist.2 h).filter pr).length_le
theorem prs_succ (p : Nat) : prs (p + 1) = if pr p then prs p ++ [p] else prs p := by
  rw [prs, List.range_succ, List.filter_append]
  by_cases h : pr p = true
  · rw [if_pos h]; simp [h, prs]
  · rw [if_neg h]; simp [h, prs]
def tabW (p : Nat) : List W32 := tabH p ++ tabK p
theorem tabH_len (p : Nat) : (tabH p).length = 8 := by simp [tabH]; omega
theorem tabK_len (p : Nat) (h : (prs p).length ≤ 64) : (tabK p).length = 64 := by simp [tabK]; omega
theorem tabW_len (p : Nat) (h : (prs p).length ≤ 64) : (tabW p).length = 72 := by rw [tabW, List.length_append, tabH_len, tabK_len p h]
/-- What Table makes. -/
def words : D := .agg ((H0.l ++ K256).map wD)
def z72 : List W32 := List.replicate 72 0
theorem z72_eq : ([.int .u32 0, .int .u32 0, .int .u32 0, .int .u32 0, .int .u32 0, .int .u32 0, .int .u32 0, .int .u32 0, .int .u32 0, .int .u32 0, .int .u32 0, .int .u32 0, .int .u32 0, .int .u32 0, .int .u32 0, .int .u32 0, .int .u32 0, .int .u32 0, .int .u32 0, .int .u32 0, .int .u32 0, .int .u32 0, .int .u32 0, .int .u32 0, .int .u32 0, .int .u32 0, .int .u32 0, .int .u32 0, .int .u32 0, .int .u32 0, .int .u32 0, .int .u32 0, .int .u32 0, .int .u32 0, .int .u32 0, .int .u32 0, .int .u32 0, .int .u32 0, .int .u32 0, .int .u32 0, .int .u32 0, .int .u32 0, .int .u32 0, .int .u32 0, .int .u32 0, .int .u32 0, .int .u32 0, .int .u32 0, .int .u32 0, .int .u32 0, .int .u32 0, .int .u32 0, .int .u32 0, .int .u32 0, .int .u32 0, .int .u32 0, .int .u32 0, .int .u32 0, .int .u32 0, .int .u32 0, .int .u32 0, .int .u32 0, .int .u32 0, .int .u32 0, .int .u32 0, .int .u32 0, .int .u32 0, .int .u32 0, .int .u32 0, .int .u32 0, .int .u32 0, .int .u32 0] : List D) = z72.map wD := Eq.trans rfl rfl
theorem z72_len : z72.length = 72 := rfl
theorem r2_frac {p k : Nat} (hp : p < 1024) (hk : k = 2 ∨ k = 3) : C E 44 [.int .u64 p, .int .i64 k] (.int .u32 ((w32 (fr p k 37)).toNat : Int)) := r2_fraction hp hk
theorem tab_succ (p : Nat) (hpr : pr p = true) (hl : (prs p).length < 64) :
    tabW (p + 1) = if (prs p).length < 8 then ((tabW p).set (prs p).length (w32 (fr p 2 37))).set (8 + (prs p).length) (w32 (fr p 3 37)) else (tabW p).set (8 + (prs p).length) (w32 (fr p 3 37)) := by
  have e : prs (p + 1) = prs p ++ [p] := by rw [prs_succ, if_pos hpr]
  have hH := tabH_len p
  have k1 : tabK (p + 1) = (tabK p).set (prs p).length (w32 (fr p 3 37)) := by
    have : List.replicate (64 - (prs p).length) (0 : W32) = 0 :: List.replicate (64 - ((prs p).length + 1)) 0 := by
      rw [← List.replicate_succ]; congr 1; omega
    rw [tabK, tabK, e, List.map_append, List.length_append, List.length_singleton, this, List.set_append_right _ _ (by simp)]
    simp
  have h1 : tabH (p + 1) = if (prs p).length < 8 then (tabH p).set (prs p).length (w32 (fr p 2 37)) else tabH p := by
    by_cases h8 : (prs p).length < 8
    · have : List.replicate (8 - (prs p).length) (0 : W32) = 0 :: List.replicate (8 - ((prs p).length + 1)) 0 := by
        rw [← List.replicate_succ]; congr 1; omega
      rw [if_pos h8, tabH, tabH, e, List.length_append, List.length_singleton, this, List.take_of_length_le (by simp; omega), List.take_of_length_le (by omega), List.map_append, List.set_append_right _ _ (by simp)]
      simp
    · rw [if_neg h8, tabH, tabH, e, List.take_append_of_le_length (by omega), List.length_append, List.length_singleton]
      congr 2
      omega
  by_cases h8 : (prs p).length < 8
  · rw [if_pos h8] at h1 ⊢
    rw [tabW, tabW, h1, k1, List.set_append_left _ _ (by omega), List.set_append_right _ _ (by rw [List.length_set]; omega), List.length_set, hH, Nat.add_sub_cancel_left]
  · rw [if_neg h8] at h1 ⊢
    rw [tabW, tabW, h1, k1, List.set_append_right _ _ (by omega), hH, Nat.add_sub_cancel_left]
theorem r2_Table : C E 16 [] words := by
  refine CG_intro Tryd.func16 rfl (by kernel_rfl) rfl (by kernel_rfl) (by kernel_rfl) rfl ?_
  simp (maxSteps := 3000000) (disch := first | exact trivial | assumption | omega | exact RegOk.mk (by decide +kernel) | exact RegCl.mk (by decide +kernel) | exact RegNo.mk (by kernel_rfl)) only [go_sem, seval, z72_eq, z72_len]
  refine AL.of (fun p : Nat => p ≤ 312) (fun p => 312 - p) (fun p => [(0, .ad 0 0), (1, .ad 1 0), (2, .int .i64 ((prs p).length : Int)), (3, .int .i64 p)])
    (fun p => [(1, .var true 72 (.agg ((tabW p).map wD))), (0, .var true 72 (.agg (z72.map wD)))]) 2 (by omega) ?_ ?_ ?_ ?_
  · simp (maxSteps := 3000000) (disch := first | exact trivial | assumption | omega | exact RegOk.mk (by decide +kernel) | exact RegCl.mk (by decide +kernel) | exact RegNo.mk (by kernel_rfl)) only [go_sem, seval]
    exact LeV.of_eq rfl
  · simp (maxSteps := 3000000) (disch := first | exact trivial | assumption | omega | exact RegOk.mk (by decide +kernel) | exact RegCl.mk (by decide +kernel) | exact RegNo.mk (by kernel_rfl)) only [go_sem, seval]
    exact LeV.of_eq rfl
  · intro p _; simp (maxSteps := 3000000) (disch := first | exact trivial | assumption | omega | exact RegOk.mk (by decide +kernel) | exact RegCl.mk (by decide +kernel) | exact RegNo.mk (by kernel_rfl)) only [go_sem, seval]
  intro p hp
  have hl64 : (prs p).length ≤ 64 := by rw [← prs_312]; exact prs_mono hp
  have hlen := tabW_len p hl64
  by_cases h : p = 312
  · subst h
    have h312 : (((prs 312).length : Nat) : Int) = 64 := by rw [prs_312]; rfl
    simp (maxSteps := 3000000) (disch := first | exact trivial | assumption | omega | exact RegOk.mk (by decide +kernel) | exact RegCl.mk (by decide +kernel) | exact RegNo.mk (by kernel_rfl)) only [go_sem, seval, h312, hlen, z72_len]
    exact LeV.of_eq (by rw [words, tabW, tabK_312, tabH_312])
  have hl : (prs p).length < 64 := by
    have := prs_mono (show p ≤ 311 by omega)
    rw [prs_311] at this
    omega
  have hd : decide (((prs p).length : Int) < 64) = true := by rw [decide_eq_true_eq]; omega
  simp (maxSteps := 3000000) (disch := first | exact trivial | assumption | omega | exact RegOk.mk (by decide +kernel) | exact RegCl.mk (by decide +kernel) | exact RegNo.mk (by kernel_rfl)) only [go_sem, seval, hd]
  refine callC (r2_prime (n := p) (by omega)) (LesV.refl _) rfl ?_
  cases hpr : pr p with
  | false =>
    have hsu : prs (p + 1) = prs p := by rw [prs_succ, hpr]; rfl
    simp (maxSteps := 3000000) (disch := first | exact trivial | assumption | omega | exact RegOk.mk (by decide +kernel) | exact RegCl.mk (by decide +kernel) | exact RegNo.mk (by kernel_rfl)) only [go_sem, seval, hpr]
    refine ⟨p + 1, by omega, by show 312 - (p + 1) < 312 - p; omega, ?_, ?_⟩
    · simp (maxSteps := 3000000) (disch := first | exact trivial | assumption | omega | exact RegOk.mk (by decide +kernel) | exact RegCl.mk (by decide +kernel) | exact RegNo.mk (by kernel_rfl)) only [go_sem, seval]
      exact ⟨LeV.of_eq (by rw [hsu]), LeV.of_eq (by congr 1)⟩
    · simp (maxSteps := 3000000) (disch := first | exact trivial | assumption | omega | exact RegOk.mk (by decide +kernel) | exact RegCl.mk (by decide +kernel) | exact RegNo.mk (by kernel_rfl)) only [go_sem, seval]
      exact LeV.of_eq (by rw [tabW, tabW, tabH, tabH, tabK, tabK, hsu])
  | true =>
    have ht := tab_succ p hpr hl
    have hsl : (prs (p + 1)).length = (prs p).length + 1 := by rw [prs_succ, if_pos hpr, List.length_append, List.length_singleton]
    by_cases h8 : (prs p).length < 8
    · have hd8 : decide (((prs p).length : Int) < 8) = true := by rw [decide_eq_true_eq]; omega
      simp (maxSteps := 3000000) (disch := first | exact trivial | assumption | omega | exact RegOk.mk (by decide +kernel) | exact RegCl.mk (by decide +kernel) | exact RegNo.mk (by kernel_rfl)) only [go_sem, seval, hpr, hd8]
      refine callC (r2_frac (p := p) (k := 2) (by omega) (.inl rfl)) (LesV.refl _) rfl ?_
      simp (maxSteps := 3000000) (disch := first | exact trivial | assumption | omega | exact RegOk.mk (by decide +kernel) | exact RegCl.mk (by decide +kernel) | exact RegNo.mk (by kernel_rfl)) only [go_sem, seval, hlen]
      refine callC (r2_frac (p := p) (k := 3) (by omega) (.inr rfl)) (LesV.refl _) rfl ?_
      have hlen2 : ((tabW p).set (prs p).length (w32 (fr p 2 37))).length = 72 := by rw [List.length_set, hlen]
      simp (maxSteps := 3000000) (disch := first | exact trivial | assumption | omega | exact RegOk.mk (by decide +kernel) | exact RegCl.mk (by decide +kernel) | exact RegNo.mk (by kernel_rfl)) only [go_sem, seval, hlen, hlen2]
      rw [if_pos h8] at ht
      refine ⟨p + 1, by omega, by show 312 - (p + 1) < 312 - p; omega, ?_, ?_⟩
      · simp (maxSteps := 3000000) (disch := first | exact trivial | assumption | omega | exact RegOk.mk (by decide +kernel) | exact RegCl.mk (by decide +kernel) | exact RegNo.mk (by kernel_rfl)) only [go_sem, seval]
        exact ⟨LeV.of_eq (by rw [hsl, Int.natCast_succ]), LeV.of_eq (by congr 1)⟩
      · simp (maxSteps := 3000000) (disch := first | exact trivial | assumption | omega | exact RegOk.mk (by decide +kernel) | exact RegCl.mk (by decide +kernel) | exact RegNo.mk (by kernel_rfl)) only [go_sem, seval]
        exact LeV.of_eq (by rw [ht])
    · have hd8 : decide (((prs p).length : Int) < 8) = false := by rw [decide_eq_false_iff_not]; omega
      simp (maxSteps := 3000000) (disch := first | exact trivial | assumption | omega | exact RegOk.mk (by decide +kernel) | exact RegCl.mk (by decide +kernel) | exact RegNo.mk (by kernel_rfl)) only [go_sem, seval, hpr, hd8]
      refine callC (r2_frac (p := p) (k := 3) (by omega) (.inr rfl)) (LesV.refl _) rfl ?_
      simp (maxSteps := 3000000) (disch := first | exact trivial | assumption | omega | exact RegOk.mk (by decide +kernel) | exact RegCl.mk (by decide +kernel) | exact RegNo.mk (by kernel_rfl)) only [go_sem, seval, hlen]
      rw [if_neg h8] at ht
      refine ⟨p + 1, by omega, by show 312 - (p + 1) < 312 - p; omega, ?_, ?_⟩
      · simp (maxSteps := 3000000) (disch := first | exact trivial | assumption | omega | exact RegOk.mk (by decide +kernel) | exact RegCl.mk (by decide +kernel) | exact RegNo.mk (by kernel_rfl)) only [go_sem, seval]
        exact ⟨LeV.of_eq (by rw [hsl, Int.natCast_succ]), LeV.of_eq (by congr 1)⟩
      · simp (maxSteps := 3000000) (disch := first | exact trivial | assumption | omega | exact RegOk.mk (by decide +kernel) | exact RegCl.mk (by decide +kernel) | exact RegNo.mk (by kernel_rfl)) only [go_sem, seval]
        exact LeV.of_eq (by rw [ht])
end Go.Proofs.YtpobbfhdkbnpmaaDoor.Lv
