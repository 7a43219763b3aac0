/- The program's numbers: Div. -/
import Derived.Test.YtmcinfbckdiaoaaGreatDoorPR
import Derived.Test.YtmcinfbckdiaoaaGreatDoorMa
import Derived.Test.YtmcinfbckdiaoaaGreatDoorMb
import Derived.Test.YtmcinfbckdiaoaaGreatDoorPF
import Derived.Test.YtmcinfbckdiaoaaGreatDoorEa
set_option linter.unusedVariables false
set_option linter.unusedSimpArgs false
set_option maxRecDepth 100000
set_option maxHeartbeats 4000000
namespace Go.Proofs.YtmcinfbckdiaoaaGreatDoor.Lv
open Go Go.RowKit
/-- A call that is given no blocks, and leaves some. -/
theorem callN {E : Ctx} {g : FuncId} {ds args : List D} {K : St → Prop} {s : St} {dst : Option Nat} {d : D} {h' : Hp} (hC : CG E g args [] d h') (hl : LesV (imps nof s.h ds) args)
    (hK : K ((aft s [] (if flat d && h'.isEmpty then [] else fsOf s [] ds) h').put dst (exD (ex [] s.nx) d))) : CallX E g ds K s dst :=
  .inl ⟨[], d, h', .inr rfl, rfl, CG.args hC hl, hK⟩
theorem callNl {E : Ctx} {gs : Nat → Bool} {g : FuncId} {ds args : List D} {K : St → Prop} {s : St} {dst : Option Nat} {d : D} {h' : Hp} (hC : CG E g args [] d h') (hl : LesV (imps nof s.h ds) args)
    (hK : K ((aft s [] (if flat d && h'.isEmpty then [] else fsOf s [] ds) h').put dst (exD (ex [] s.nx) d))) : CallX (E.lim gs) g ds K s dst := callN (E := E.lim gs) hC hl hK
theorem nb_nbit {n k : Nat} : nb n ≤ k ↔ nbit n ≤ 32 * k := by
  rw [nb_lt, nbit_lt, Nat.pow_mul]
theorem nb_mono {a b : Nat} (h : a ≤ b) : nb a ≤ nb b := nb_lt.2 (Nat.lt_of_le_of_lt h (nb_lt.1 (Nat.le_refl _)))
theorem nbit_shl {n : Nat} (h : n ≠ 0) (s : Nat) : nbit (n * 2 ^ s) = nbit n + s := by
  have hp := Nat.two_pow_pos s
  rw [nbit_div (n * 2 ^ s) s (by have : 1 * 2 ^ s ≤ n * 2 ^ s := Nat.mul_le_mul_right _ (by omega); omega), Nat.mul_div_cancel _ hp]
theorem div_norm {a b k s : Nat} (hb : nb b = k + 2) (hab : b ≤ a) (hs : s = 32 - nbit ((limbs b).getD (k + 1) 0)) :
    s < 32 ∧ nb (b * 2 ^ s) = k + 2 ∧ 2147483648 ≤ (limbs (b * 2 ^ s)).getD (k + 1) 0 ∧ nb (a * 2 ^ s) ≤ nb a + 1 ∧ nb a ≤ nb (a * 2 ^ s) ∧ k + 2 ≤ nb a ∧ a * 2 ^ s / 4294967296 ^ (nb a + 1 - (k + 2)) < b * 2 ^ s := by
  obtain ⟨n1, n2⟩ := nbit_limbs (n := b) (k := k + 1) hb
  have ht := (limbs_low b).getD (k + 1)
  have hnt : nbit ((limbs b).getD (k + 1) 0) ≤ 32 := nbit_lt.2 ht
  have hpt := nbit_pos (Nat.pos_of_ne_zero n2)
  have hb0 : b ≠ 0 := fun e => by subst e; unfold nb at hb; rw [limbs_zero] at hb; simp at hb
  have ha0 : a ≠ 0 := by omega
  have e1 := nbit_shl hb0 s
  have e2 := nbit_shl ha0 s
  have hnb : nb (b * 2 ^ s) = k + 2 := by
    have h1 := nb_nbit (n := b * 2 ^ s) (k := k + 2)
    have h2 := nb_nbit (n := b * 2 ^ s) (k := k + 1)
    omega
  obtain ⟨m1, m2⟩ := nbit_limbs (n := b * 2 ^ s) (k := k + 1) hnb
  have hbig : 2147483648 ≤ (limbs (b * 2 ^ s)).getD (k + 1) 0 := by
    rcases Nat.lt_or_ge ((limbs (b * 2 ^ s)).getD (k + 1) 0) 2147483648 with h | h
    · have := (nbit_lt (n := (limbs (b * 2 ^ s)).getD (k + 1) 0) (k := 31)).2 h
      omega
    · exact h
  have hla := nb_mono hab
  have hs32 : s < 32 := by omega
  refine ⟨hs32, hnb, hbig, ?_, ?_, by omega, ?_⟩
  · have h1 := nb_nbit (n := a * 2 ^ s) (k := nb a + 1)
    have h2 := (nb_nbit (n := a) (k := nb a)).1 (Nat.le_refl _)
    omega
  · exact nb_mono (Nat.le_mul_of_pos_right a (Nat.two_pow_pos s))
  · rw [Nat.div_lt_iff_lt_mul (Nat.pow_pos (by omega))]
    have h1 : a < 4294967296 ^ nb a := nb_lt.1 (Nat.le_refl _)
    have h2 : 4294967296 ^ (k + 1) ≤ b := by
      rcases Nat.lt_or_ge b (4294967296 ^ (k + 1)) with h | h
      · have := nb_lt.2 h; omega
      · exact h
    have h3 : (4294967296 : Nat) ^ nb a = 4294967296 ^ (k + 1) * 4294967296 ^ (nb a + 1 - (k + 2)) := by
      rw [← Nat.pow_add]; congr 1; omega
    calc a * 2 ^ s < 4294967296 ^ nb a * 2 ^ s := Nat.mul_lt_mul_of_pos_right h1 (Nat.two_pow_pos s)
      _ = 4294967296 ^ (k + 1) * 4294967296 ^ (nb a + 1 - (k + 2)) * 2 ^ s := by rw [h3]
      _ ≤ b * 4294967296 ^ (nb a + 1 - (k + 2)) * 2 ^ s := Nat.mul_le_mul_right _ (Nat.mul_le_mul_right _ h2)
      _ = b * 2 ^ s * 4294967296 ^ (nb a + 1 - (k + 2)) := Nat.mul_right_comm _ _ _
theorem padL_app {n N j : Nat} (h : nb n ≤ N) : padL n N ++ List.replicate j 0 = padL n (N + j) := by
  rw [padL, padL, List.append_assoc, List.replicate_append_replicate, show N - nb n + j = N + j - nb n by omega]
theorem padL_self (n : Nat) : padL n (nb n) = limbs n := by rw [padL, Nat.sub_self]; exact List.append_nil _
/-- What appending two limbs of nought to a number's own makes. -/
theorem app_zz {n N j : Nat} (h : nb n ≤ N) (hj : j < nb n + 2) : (if j < nb n then lR (padL n N) j else [D.int .u32 0, D.int .u32 0].getD (j - nb n) .unk) = lR (padL n (nb n + 2)) j := by
  by_cases hlt : j < nb n
  · rw [if_pos hlt, lR, lR, padL_getD hlt, padL_getD hlt]
  · rw [if_neg hlt]
    have : (padL n (nb n + 2)).getD j 0 = 0 := by
      rw [padL, List.getD_eq_getElem?_getD, List.getElem?_append_right (by unfold nb at hlt; omega), List.getElem?_replicate]
      split <;> rfl
    rw [lR, this]
    rcases (show j = nb n ∨ j = nb n + 1 by omega) with h | h
    · rw [h, Nat.sub_self]; rfl
    · rw [h, show nb n + 1 - nb n = 1 by omega]; rfl
theorem div_mod_of {a b Q R : Nat} (hb : 0 < b) (h : a = b * Q + R) (hR : R < b) : a / b = Q ∧ a % b = R := by
  subst h
  rw [Nat.mul_add_div hb, Nat.mul_add_mod, Nat.div_eq_of_lt hR, Nat.mod_eq_of_lt hR]
  exact ⟨rfl, rfl⟩
theorem nat_Div0 {a : Nat} : C E 94 [natD a, natD 0] (.tup [natD 0, natD 0, .bool false]) := by
  refine CG_intro Tryz.func94 rfl (by kernel_rfl) rfl (by kernel_rfl) (by kernel_rfl) rfl ?_
  have hz : limbs 0 = [] := limbs_zero
  have hn : LeV (.agg [.nils]) (natD 0) := by rw [natD, hz]; exact LeV.agg (LesV.cons LeV.nils LesV.nil)
  simp (maxSteps := 3000000) (disch := first | exact trivial | assumption | omega | exact rOk | exact rCl | exact rNo) only [go_sem, seval, natD, u32s, hz]
  rw [natD, hz] at hn
  exact LeV.tup (LesV.cons hn (LesV.cons hn (LesV.refl _)))
theorem nat_Div {a b : Nat} (ha : nb a < 536870000) (hb : nb b < 536870000) (hb0 : b ≠ 0) : C E 94 [natD a, natD b] (.tup [natD (a / b), natD (a % b), .bool true]) := by
  refine CG_intro Tryz.func94 rfl (by kernel_rfl) rfl (by kernel_rfl) (by kernel_rfl) rfl ?_
  have hlb := limbs_ne hb0
  have ha' : (limbs a).length < 536870000 := ha
  have hb' : (limbs b).length < 536870000 := hb
  simp (maxSteps := 3000000) (disch := first | exact trivial | assumption | omega | exact rOk | exact rCl | exact rNo) only [go_sem, seval, natD_u32s, u32s]
  refine callC (nat_Cmp (a := a) (b := b) (by omega) (by omega)) ?_ rfl ?_
  · simp (maxSteps := 3000000) (disch := first | exact trivial | assumption | omega | exact rOk | exact rCl | exact rNo) only [go_sem, seval, natD_u32s, u32s]
    try exact LesV.refl _
  by_cases hab : a < b
  · have hs : sgI (a : Int) (b : Int) = -1 := sgI_lt (by omega)
    rw [Nat.div_eq_of_lt hab, Nat.mod_eq_of_lt hab]
    have hn : LeV (.agg [.nils]) (natD 0) := by rw [natD, limbs_zero]; exact LeV.agg (LesV.cons LeV.nils LesV.nil)
    simp (maxSteps := 3000000) (disch := first | exact trivial | assumption | omega | exact rOk | exact rCl | exact rNo) only [go_sem, seval, hs]
    refine AReg_anyL 5 [0, 1, 2, 3, 4] rfl rfl (by decide +kernel) ?_
    refine AAny_free 0 [1, 2, 3, 4] (by decide +kernel) rfl ?_
    refine AI_at _ rfl ?_
    simp (maxSteps := 3000000) (disch := first | exact trivial | assumption | omega | exact rOk | exact rCl | exact rNo) only [go_sem, seval]
    refine AAny_step [(1, [2, 3, 4]), (2, [1, 3, 4])] (by decide +kernel) rfl ?_
    refine forall_more ?_ ?_
    · refine AI_at _ rfl ?_
      simp (maxSteps := 3000000) (disch := first | exact trivial | assumption | omega | exact rOk | exact rCl | exact rNo) only [go_sem, seval]
      refine AAny_free 2 [3, 4] (by decide +kernel) rfl ?_
      refine AI_at _ rfl ?_
      simp (maxSteps := 3000000) (disch := first | exact trivial | assumption | omega | exact rOk | exact rCl | exact rNo) only [go_sem, seval]
      refine AAny_free 3 [4] (by decide +kernel) rfl ?_
      refine AI_at _ rfl ?_
      simp (maxSteps := 3000000) (disch := first | exact trivial | assumption | omega | exact rOk | exact rCl | exact rNo) only [go_sem, seval]
      refine AAny_free 4 [] (by decide +kernel) rfl ?_
      refine AI_at _ rfl ?_
      simp (maxSteps := 3000000) (disch := first | exact trivial | assumption | omega | exact rOk | exact rCl | exact rNo) only [go_sem, seval]
      refine AAny_end ?_
      simp (maxSteps := 3000000) (disch := first | exact trivial | assumption | omega | exact rOk | exact rCl | exact rNo) only [go_sem, seval]
      exact LeV.tup (LesV.cons hn (LesV.refl _))
    refine forall_one ?_
    refine AI_at _ rfl ?_
    simp (maxSteps := 3000000) (disch := first | exact trivial | assumption | omega | exact rOk | exact rCl | exact rNo) only [go_sem, seval]
    refine AAny_free 1 [3, 4] (by decide +kernel) rfl ?_
    refine AI_at _ rfl ?_
    simp (maxSteps := 3000000) (disch := first | exact trivial | assumption | omega | exact rOk | exact rCl | exact rNo) only [go_sem, seval]
    refine AAny_free 3 [4] (by decide +kernel) rfl ?_
    refine AI_at _ rfl ?_
    simp (maxSteps := 3000000) (disch := first | exact trivial | assumption | omega | exact rOk | exact rCl | exact rNo) only [go_sem, seval]
    refine AAny_free 4 [] (by decide +kernel) rfl ?_
    refine AI_at _ rfl ?_
    simp (maxSteps := 3000000) (disch := first | exact trivial | assumption | omega | exact rOk | exact rCl | exact rNo) only [go_sem, seval]
    refine AAny_end ?_
    simp (maxSteps := 3000000) (disch := first | exact trivial | assumption | omega | exact rOk | exact rCl | exact rNo) only [go_sem, seval]
    exact LeV.tup (LesV.cons hn (LesV.refl _))
  · have hs : 0 ≤ sgI (a : Int) (b : Int) := by
      rcases Nat.lt_or_ge b a with h | h
      · rw [sgI_gt (by omega)]; decide
      · rw [show a = b by omega, sgI_eq]; decide
    by_cases h1 : (limbs b).length = 1
    · have hl0 : (limbs b).getD 0 0 = b := by
        have := val_limbs b
        obtain ⟨x, hx⟩ := List.length_eq_one_iff.1 h1
        rw [hx] at this ⊢
        simpa [val] using this
      have hb32 : b < 4294967296 := by rw [← hl0]; exact (limbs_low b).getD 0
      have ha0 : limbs a ≠ [] := fun e => by
        have := val_limbs a
        rw [e] at this
        simp [val] at this
        omega
      have hsv := sdiv_val (q := b) (by omega) (limbs a)
      have hsr := sdiv_rem (q := b) (by omega) (limbs a)
      have hsl := sdiv_low (q := b) (by omega) (limbs_low a)
      have hslen := sdiv_len b (limbs a)
      rw [val_limbs] at hsv
      obtain ⟨r1, r2⟩ : a / b = val (sdiv b (limbs a)).1 ∧ a % b = (sdiv b (limbs a)).2 := by
        exact div_mod_of (by omega) hsv hsr
      rw [r1, r2]
      simp (maxSteps := 3000000) (disch := first | exact trivial | assumption | omega | exact rOk | exact rCl | exact rNo) only [go_sem, seval, hs, h1, u32s]
      refine callN (clone_u32 ha0 (by omega)) ?_ ?_
      · simp (maxSteps := 3000000) (disch := first | exact trivial | assumption | omega | exact rOk | exact rCl | exact rNo) only [go_sem, seval, u32s]
      simp (maxSteps := 3000000) (disch := first | exact trivial | assumption | omega | exact rOk | exact rCl | exact rNo) only [go_sem, seval, u32s, h1, hl0]
      refine callG [4] (nat_short (limbs_low a) (by omega) (q := b) (by omega) hb32 1) rfl (by simp (maxSteps := 3000000) (disch := first | exact trivial | assumption | omega | exact rOk | exact rCl | exact rNo) only [go_sem, seval]) ?_ ?_ ?_
      · simp (maxSteps := 3000000) (disch := first | exact trivial | assumption | omega | exact rOk | exact rCl | exact rNo) only [go_sem, seval, u32s]
      · simp (maxSteps := 3000000) (disch := first | exact trivial | assumption | omega | exact rOk | exact rCl | exact rNo) only [go_sem, seval]
      simp (maxSteps := 3000000) (disch := first | exact trivial | assumption | omega | exact rOk | exact rCl | exact rNo) only [go_sem, seval, u32s, h1, hl0]
      refine callC (nat_cut hsl (by omega)) ?_ rfl ?_
      · simp (maxSteps := 3000000) (disch := first | exact trivial | assumption | omega | exact rOk | exact rCl | exact rNo) only [go_sem, seval, u32s]
        exact LesV_rows hslen.symm fun j hj => rfl
      simp (maxSteps := 3000000) (disch := first | exact trivial | assumption | omega | exact rOk | exact rCl | exact rNo) only [go_sem, seval, u32s]
      refine callC (nat_Of (v := (sdiv b (limbs a)).2) (by omega)) ?_ rfl ?_
      · simp (maxSteps := 3000000) (disch := first | exact trivial | assumption | omega | exact rOk | exact rCl | exact rNo) only [go_sem, seval, u32s]
      simp (maxSteps := 3000000) (disch := first | exact trivial | assumption | omega | exact rOk | exact rCl | exact rNo) only [go_sem, seval, u32s]
      try exact LeV.refl _
    · obtain ⟨k, hk⟩ : ∃ k, (limbs b).length = k + 2 := ⟨(limbs b).length - 2, by omega⟩
      obtain ⟨d1, d2, d3, d4, d5, d6, d7⟩ := div_norm (s := 32 - nbit ((limbs b).getD (k + 1) 0)) hk (by omega : b ≤ a) rfl
      have i1 : (((k + 2 : Nat) : Int) - 1).toNat = k + 1 := by omega
      have htop := (limbs_low b).getD (k + 1)
      have hlz := bits_LeadingZeros32 htop
      generalize 32 - nbit ((limbs b).getD (k + 1) 0) = s at *
      have hsn := shN_id (n := s) (by omega)
      have hSa := nat_Shl_own (a := a) (by omega) (s : Int)
      have hSb := nat_Shl (a := b) (by omega) (s : Int)
      rw [hsn] at hSa hSb
      rw [show s / 32 = 0 by omega] at hSa
      generalize hA : a * 2 ^ s = A at *
      generalize hB : b * 2 ^ s = Bb at *
      have hla : (limbs a).length = nb a := rfl
      have hlB : (limbs Bb).length = k + 2 := d2
      simp (maxSteps := 3000000) (disch := first | exact trivial | assumption | omega | exact rOk | exact rCl | exact rNo) only [go_sem, seval, hs, hk, u32s, i1]
      refine callC hlz ?_ rfl ?_
      · simp (maxSteps := 3000000) (disch := first | exact trivial | assumption | omega | exact rOk | exact rCl | exact rNo) only [go_sem, seval, u32s]
      simp (maxSteps := 3000000) (disch := first | exact trivial | assumption | omega | exact rOk | exact rCl | exact rNo) only [go_sem, seval, hs, hk, u32s, i1]
      have hl1 : ((nb a : Nat) : Int) + 1 = ((nb a + 1 : Nat) : Int) := by omega
      have hl2 : ((nb a + 1 : Nat) : Int).toNat = nb a + 1 := by omega
      have hsp := Nat.two_pow_pos s
      have hAq : A / Bb = a / b := by rw [← hA, ← hB, Nat.mul_div_mul_right _ _ hsp]
      have hAr : A % Bb = a % b * 2 ^ s := by rw [← hA, ← hB, Nat.mul_mod_mul_right]
      have hRs : A % Bb / 2 ^ s = a % b := by rw [hAr, Nat.mul_div_cancel _ hsp]
      have hBp : 0 < Bb := by rw [← hB]; exact Nat.mul_pos (by omega) hsp
      obtain ⟨M, hM⟩ : ∃ M, M = nb a + 1 - (k + 2) := ⟨_, rfl⟩
      have hM2 : M + (k + 2) = nb a + 1 := by omega
      rw [← hM] at d7
      have hq1 : nb (a / b) ≤ M := by
        rw [← hAq]
        refine nb_lt.2 ?_
        rw [Nat.div_lt_iff_lt_mul (Nat.pow_pos (by omega))] at d7
        rw [Nat.div_lt_iff_lt_mul hBp, Nat.mul_comm]
        exact d7
      have hr1 : nb (A % Bb) ≤ nb a + 1 := Nat.le_trans (nb_mono (Nat.mod_le _ _)) d4
      have hlong := nat_long (u := padL A (nb a + 1)) (v := limbs Bb) (t := List.replicate (nb A + 1 - nb a) 0) (M := M) (N := nb A + 2) (k := k) padL_low (limbs_low Bb) hlB (by rw [padL_len d4, hlB]; exact hM2) d3
        (by rw [val_drop padL_low (by rw [padL_len d4]; omega), padL_val, val_limbs]; exact d7) (by rw [List.length_replicate]; omega) (by omega) 1
        (fun j => if j < nb A then lR (padL A (nb a + 1)) j else [D.int .u32 0, D.int .u32 0].getD (j - nb A) .unk)
        (fun j hj => by rw [padL_app d4, show nb a + 1 + (nb A + 1 - nb a) = nb A + 2 by omega]; exact app_zz d4 hj)
      rw [hM2, padL_val, val_limbs, hAq] at hlong
      have hrow : ∀ j, j < nb a + 1 → lR (padL (A % Bb) (nb a + 1) ++ List.replicate (nb A + 1 - nb a) 0) j = lR (padL (A % Bb) (nb a + 1)) j := fun j hj => by
        rw [lR, lR, List.getD_eq_getElem?_getD, List.getElem?_append_left (by rw [padL_len hr1]; exact hj), List.getD_eq_getElem?_getD]
      have hRb : nb (A % Bb) < 536870912 := by omega
      rw [hAr] at hRs hlong hrow hr1 hRb
      generalize a % b * 2 ^ s = R at *
      clear hAr hAq hBp d7 d3
      refine AReg_anyL 17 [0, 1, 2, 3, 4, 5, 6, 7, 8, 9, 10, 11, 12, 13, 14, 15, 16] rfl rfl (by decide +kernel) ?_
      refine AAny_free 0 [1, 2, 3, 4, 5, 6, 7, 8, 9, 10, 11, 12, 13, 14, 15, 16] (by decide +kernel) rfl ?_
      refine AI_at _ rfl ?_
      simp (maxSteps := 3000000) (disch := first | exact trivial | assumption | omega | exact rOk | exact rCl | exact rNo) only [go_sem, seval, u32s, hl1, hl2, hla, hk]
      refine AAny_free 1 [2, 3, 4, 5, 6, 7, 8, 9, 10, 11, 12, 13, 14, 15, 16] (by decide +kernel) rfl ?_
      refine AI_at _ rfl ?_
      simp (maxSteps := 3000000) (disch := first | exact trivial | assumption | omega | exact rOk | exact rCl | exact rNo) only [go_sem, seval, u32s, hl1, hl2, hla, hk]
      refine AAny_free 12 [2, 3, 4, 5, 6, 7, 8, 9, 10, 11, 13, 14, 15, 16] (by decide +kernel) rfl ?_
      refine AI_at _ rfl ?_
      simp (maxSteps := 3000000) (disch := first | exact trivial | assumption | omega | exact rOk | exact rCl | exact rNo) only [go_sem, seval, u32s, hl1, hl2, hla, hk]
      refine AAny_stab 6 [2, 3, 4, 5, 7, 8, 9, 10, 11, 13, 14, 15, 16] (by decide +kernel) rfl (by simp (maxSteps := 3000000) (disch := first | exact trivial | assumption | omega | exact rOk | exact rCl | exact rNo) only [go_sem, seval, u32s, hl1, hl2, hla, hk, stab, isVarB, blks, blkss, Op.operands, Call.operands, List.toList_toArray, Array.toList_append, List.all_cons, List.all_nil, Option.isNone_none]) ?_
      refine AI_at _ rfl ?_
      simp (maxSteps := 3000000) (disch := first | exact trivial | assumption | omega | exact rOk | exact rCl | exact rNo) only [go_sem, seval, u32s, hl1, hl2, hla, hk]
      refine AAny_stab 7 [2, 3, 4, 5, 8, 9, 10, 11, 13, 14, 15, 16] (by decide +kernel) rfl (by simp (maxSteps := 3000000) (disch := first | exact trivial | assumption | omega | exact rOk | exact rCl | exact rNo) only [go_sem, seval, u32s, hl1, hl2, hla, hk, stab, isVarB, blks, blkss, Op.operands, Call.operands, List.toList_toArray, Array.toList_append, List.all_cons, List.all_nil, Option.isNone_none]) ?_
      refine AI_at _ rfl ?_
      simp (maxSteps := 3000000) (disch := first | exact trivial | assumption | omega | exact rOk | exact rCl | exact rNo) only [go_sem, seval, u32s, hl1, hl2, hla, hk]
      refine AAny_stab 8 [2, 3, 4, 5, 9, 10, 11, 13, 14, 15, 16] (by decide +kernel) rfl (by simp (maxSteps := 3000000) (disch := first | exact trivial | assumption | omega | exact rOk | exact rCl | exact rNo) only [go_sem, seval, u32s, hl1, hl2, hla, hk, stab, isVarB, blks, blkss, Op.operands, Call.operands, List.toList_toArray, Array.toList_append, List.all_cons, List.all_nil, Option.isNone_none]) ?_
      refine AI_at _ rfl ?_
      simp (maxSteps := 3000000) (disch := first | exact trivial | assumption | omega | exact rOk | exact rCl | exact rNo) only [go_sem, seval, u32s, hl1, hl2, hla, hk]
      refine AAny_free 9 [2, 3, 4, 5, 10, 11, 13, 14, 15, 16] (by decide +kernel) rfl ?_
      refine AI_at _ rfl ?_
      simp (maxSteps := 3000000) (disch := first | exact trivial | assumption | omega | exact rOk | exact rCl | exact rNo) only [go_sem, seval, u32s, hl1, hl2, hla, hk]
      refine AAny_stab 11 [2, 3, 4, 5, 10, 13, 14, 15, 16] (by decide +kernel) rfl (by simp (maxSteps := 3000000) (disch := first | exact trivial | assumption | omega | exact rOk | exact rCl | exact rNo) only [go_sem, seval, u32s, hl1, hl2, hla, hk, stab, isVarB, blks, blkss, Op.operands, Call.operands, List.toList_toArray, Array.toList_append, List.all_cons, List.all_nil, Option.isNone_none]) ?_
      refine AI_at _ rfl ?_
      simp (maxSteps := 3000000) (disch := first | exact trivial | assumption | omega | exact rOk | exact rCl | exact rNo) only [go_sem, seval, u32s, hl1, hl2, hla, hk]
      refine AAny_step [(2, [3, 4, 5, 10, 13, 14, 15, 16]), (4, [2, 3, 5, 10, 13, 14, 15, 16])] (by decide +kernel) rfl ?_
      refine forall_more ?_ ?_
      · refine AI_at _ rfl ?_
        simp (maxSteps := 3000000) (disch := first | exact trivial | assumption | omega | exact rOk | exact rCl | exact rNo) only [go_sem, seval, u32s, hl1, hl2, hla, hk]
        refine callNl hSa ?_ ?_
        · simp (maxSteps := 3000000) (disch := first | exact trivial | assumption | omega | exact rOk | exact rCl | exact rNo) only [go_sem, seval, u32s, hl1, hl2, hla, hk, natD]
        simp (maxSteps := 3000000) (disch := first | exact trivial | assumption | omega | exact rOk | exact rCl | exact rNo) only [go_sem, seval, u32s, hl1, hl2, hla, hk]
        refine AAny_free 3 [4, 5, 10, 13, 14, 15, 16] (by decide +kernel) rfl ?_
        refine AI_at _ rfl ?_
        simp (maxSteps := 3000000) (disch := first | exact trivial | assumption | omega | exact rOk | exact rCl | exact rNo) only [go_sem, seval, u32s, hl1, hl2, hla, hk]
        refine AAny_free 4 [5, 10, 13, 14, 15, 16] (by decide +kernel) rfl ?_
        refine AI_at _ rfl ?_
        simp (maxSteps := 3000000) (disch := first | exact trivial | assumption | omega | exact rOk | exact rCl | exact rNo) only [go_sem, seval, u32s, hl1, hl2, hla, hk]
        refine AAny_free 5 [10, 13, 14, 15, 16] (by decide +kernel) rfl ?_
        refine AI_at _ rfl ?_
        simp (maxSteps := 3000000) (disch := first | exact trivial | assumption | omega | exact rOk | exact rCl | exact rNo) only [go_sem, seval, u32s, hl1, hl2, hla, hk]
        refine ⟨.inl trivial, .inr trivial, by omega, by omega, ?_⟩
        refine AAny_free 10 [13, 14, 15, 16] (by decide +kernel) rfl ?_
        refine AI_at _ rfl ?_
        simp (maxSteps := 3000000) (disch := first | exact trivial | assumption | omega | exact rOk | exact rCl | exact rNo) only [go_sem, seval, u32s, hl1, hl2, hla, hk]
        refine AAny_free 13 [14, 15, 16] (by decide +kernel) rfl ?_
        refine AI_at _ rfl ?_
        simp (maxSteps := 3000000) (disch := first | exact trivial | assumption | omega | exact rOk | exact rCl | exact rNo) only [go_sem, seval, u32s, hl1, hl2, hla, hk]
        refine callCl hSb ?_ rfl ?_
        · simp (maxSteps := 3000000) (disch := first | exact trivial | assumption | omega | exact rOk | exact rCl | exact rNo) only [go_sem, seval, u32s, hl1, hl2, hla, hk, natD]
        simp (maxSteps := 3000000) (disch := first | exact trivial | assumption | omega | exact rOk | exact rCl | exact rNo) only [go_sem, seval, u32s, hl1, hl2, hla, hk]
        refine AAny_free 14 [15, 16] (by decide +kernel) rfl ?_
        refine AI_at _ rfl ?_
        simp (maxSteps := 3000000) (disch := first | exact trivial | assumption | omega | exact rOk | exact rCl | exact rNo) only [go_sem, seval, u32s, hl1, hl2, hla, hk]
        refine AAny_free 15 [16] (by decide +kernel) rfl ?_
        refine AI_at _ rfl ?_
        simp (maxSteps := 3000000) (disch := first | exact trivial | assumption | omega | exact rOk | exact rCl | exact rNo) only [go_sem, seval, u32s, hl1, hl2, hla, hk]
        refine AAny_free 16 [] (by decide +kernel) rfl ?_
        refine AI_at _ rfl ?_
        simp (maxSteps := 3000000) (disch := first | exact trivial | assumption | omega | exact rOk | exact rCl | exact rNo) only [go_sem, seval, u32s, hl1, hl2, hla, hk]
        refine AAny_end ?_
        simp (maxSteps := 3000000) (disch := first | exact trivial | assumption | omega | exact rOk | exact rCl | exact rNo) only [go_sem, seval, u32s, hl1, hl2, hla, hk]
        first | (refine callG [6] hlong rfl ?_ ?_ ?_ ?_; focus (simp (maxSteps := 3000000) (disch := first | exact trivial | assumption | omega | exact rOk | exact rCl | exact rNo) only [go_sem, seval]; done)) | (refine callG [7] hlong rfl ?_ ?_ ?_ ?_; focus (simp (maxSteps := 3000000) (disch := first | exact trivial | assumption | omega | exact rOk | exact rCl | exact rNo) only [go_sem, seval]; done))
        · simp (maxSteps := 3000000) (disch := first | exact trivial | assumption | omega | exact rOk | exact rCl | exact rNo) only [go_sem, seval, u32s, hl1, hl2, hla, hk, natD, hlB]
        · simp (maxSteps := 3000000) (disch := first | exact trivial | assumption | omega | exact rOk | exact rCl | exact rNo) only [go_sem, seval]
        simp (maxSteps := 3000000) (disch := first | exact trivial | assumption | omega | exact rOk | exact rCl | exact rNo) only [go_sem, seval, u32s, hl1, hl2, hla, hk, hlB]
        refine callC (nat_cut (l := padL (a / b) M) padL_low (by rw [padL_len hq1]; omega)) ?_ rfl ?_
        · simp (maxSteps := 3000000) (disch := first | exact trivial | assumption | omega | exact rOk | exact rCl | exact rNo) only [go_sem, seval, u32s, hl1, hl2, hla, hk]
          exact LesV_rows (padL_len hq1).symm fun j hj => rfl
        rw [padL_val]
        simp (maxSteps := 3000000) (disch := first | exact trivial | assumption | omega | exact rOk | exact rCl | exact rNo) only [go_sem, seval, u32s, hl1, hl2, hla, hk]
        refine callC (nat_cut (l := padL R (nb a + 1)) padL_low (by rw [padL_len hr1]; omega)) ?_ rfl ?_
        · simp (maxSteps := 3000000) (disch := first | exact trivial | assumption | omega | exact rOk | exact rCl | exact rNo) only [go_sem, seval, u32s, hl1, hl2, hla, hk]
          exact LesV_rows (padL_len hr1).symm fun j hj => hrow j hj
        rw [padL_val]
        simp (maxSteps := 3000000) (disch := first | exact trivial | assumption | omega | exact rOk | exact rCl | exact rNo) only [go_sem, seval, u32s, hl1, hl2, hla, hk]
        refine callC (nat_Shr (a := R) (by omega) (s : Int)) ?_ rfl ?_
        · simp (maxSteps := 3000000) (disch := first | exact trivial | assumption | omega | exact rOk | exact rCl | exact rNo) only [go_sem, seval, u32s, hl1, hl2, hla, hk, natD]
        rw [hsn, hRs]
        simp (maxSteps := 3000000) (disch := first | exact trivial | assumption | omega | exact rOk | exact rCl | exact rNo) only [go_sem, seval, u32s, hl1, hl2, hla, hk]
        exact LeV.refl _
      refine forall_one ?_
      refine AI_at _ rfl ?_
      simp (maxSteps := 3000000) (disch := first | exact trivial | assumption | omega | exact rOk | exact rCl | exact rNo) only [go_sem, seval, u32s, hl1, hl2, hla, hk]
      refine AAny_free 2 [3, 5, 10, 13, 14, 15, 16] (by decide +kernel) rfl ?_
      refine AI_at _ rfl ?_
      simp (maxSteps := 3000000) (disch := first | exact trivial | assumption | omega | exact rOk | exact rCl | exact rNo) only [go_sem, seval, u32s, hl1, hl2, hla, hk]
      refine callNl hSa ?_ ?_
      · simp (maxSteps := 3000000) (disch := first | exact trivial | assumption | omega | exact rOk | exact rCl | exact rNo) only [go_sem, seval, u32s, hl1, hl2, hla, hk, natD]
      simp (maxSteps := 3000000) (disch := first | exact trivial | assumption | omega | exact rOk | exact rCl | exact rNo) only [go_sem, seval, u32s, hl1, hl2, hla, hk]
      refine AAny_free 3 [5, 10, 13, 14, 15, 16] (by decide +kernel) rfl ?_
      refine AI_at _ rfl ?_
      simp (maxSteps := 3000000) (disch := first | exact trivial | assumption | omega | exact rOk | exact rCl | exact rNo) only [go_sem, seval, u32s, hl1, hl2, hla, hk]
      refine AAny_free 5 [10, 13, 14, 15, 16] (by decide +kernel) rfl ?_
      refine AI_at _ rfl ?_
      simp (maxSteps := 3000000) (disch := first | exact trivial | assumption | omega | exact rOk | exact rCl | exact rNo) only [go_sem, seval, u32s, hl1, hl2, hla, hk]
      refine ⟨.inl trivial, .inr trivial, by omega, by omega, ?_⟩
      refine AAny_free 10 [13, 14, 15, 16] (by decide +kernel) rfl ?_
      refine AI_at _ rfl ?_
      simp (maxSteps := 3000000) (disch := first | exact trivial | assumption | omega | exact rOk | exact rCl | exact rNo) only [go_sem, seval, u32s, hl1, hl2, hla, hk]
      refine AAny_free 13 [14, 15, 16] (by decide +kernel) rfl ?_
      refine AI_at _ rfl ?_
      simp (maxSteps := 3000000) (disch := first | exact trivial | assumption | omega | exact rOk | exact rCl | exact rNo) only [go_sem, seval, u32s, hl1, hl2, hla, hk]
      refine callCl hSb ?_ rfl ?_
      · simp (maxSteps := 3000000) (disch := first | exact trivial | assumption | omega | exact rOk | exact rCl | exact rNo) only [go_sem, seval, u32s, hl1, hl2, hla, hk, natD]
      simp (maxSteps := 3000000) (disch := first | exact trivial | assumption | omega | exact rOk | exact rCl | exact rNo) only [go_sem, seval, u32s, hl1, hl2, hla, hk]
      refine AAny_free 14 [15, 16] (by decide +kernel) rfl ?_
      refine AI_at _ rfl ?_
      simp (maxSteps := 3000000) (disch := first | exact trivial | assumption | omega | exact rOk | exact rCl | exact rNo) only [go_sem, seval, u32s, hl1, hl2, hla, hk]
      refine AAny_free 15 [16] (by decide +kernel) rfl ?_
      refine AI_at _ rfl ?_
      simp (maxSteps := 3000000) (disch := first | exact trivial | assumption | omega | exact rOk | exact rCl | exact rNo) only [go_sem, seval, u32s, hl1, hl2, hla, hk]
      refine AAny_free 16 [] (by decide +kernel) rfl ?_
      refine AI_at _ rfl ?_
      simp (maxSteps := 3000000) (disch := first | exact trivial | assumption | omega | exact rOk | exact rCl | exact rNo) only [go_sem, seval, u32s, hl1, hl2, hla, hk]
      refine AAny_end ?_
      simp (maxSteps := 3000000) (disch := first | exact trivial | assumption | omega | exact rOk | exact rCl | exact rNo) only [go_sem, seval, u32s, hl1, hl2, hla, hk]
      first | (refine callG [6] hlong rfl ?_ ?_ ?_ ?_; focus (simp (maxSteps := 3000000) (disch := first | exact trivial | assumption | omega | exact rOk | exact rCl | exact rNo) only [go_sem, seval]; done)) | (refine callG [7] hlong rfl ?_ ?_ ?_ ?_; focus (simp (maxSteps := 3000000) (disch := first | exact trivial | assumption | omega | exact rOk | exact rCl | exact rNo) only [go_sem, seval]; done))
      · simp (maxSteps := 3000000) (disch := first | exact trivial | assumption | omega | exact rOk | exact rCl | exact rNo) only [go_sem, seval, u32s, hl1, hl2, hla, hk, natD, hlB]
      · simp (maxSteps := 3000000) (disch := first | exact trivial | assumption | omega | exact rOk | exact rCl | exact rNo) only [go_sem, seval]
      simp (maxSteps := 3000000) (disch := first | exact trivial | assumption | omega | exact rOk | exact rCl | exact rNo) only [go_sem, seval, u32s, hl1, hl2, hla, hk, hlB]
      refine callC (nat_cut (l := padL (a / b) M) padL_low (by rw [padL_len hq1]; omega)) ?_ rfl ?_
      · simp (maxSteps := 3000000) (disch := first | exact trivial | assumption | omega | exact rOk | exact rCl | exact rNo) only [go_sem, seval, u32s, hl1, hl2, hla, hk]
        exact LesV_rows (padL_len hq1).symm fun j hj => rfl
      rw [padL_val]
      simp (maxSteps := 3000000) (disch := first | exact trivial | assumption | omega | exact rOk | exact rCl | exact rNo) only [go_sem, seval, u32s, hl1, hl2, hla, hk]
      refine callC (nat_cut (l := padL R (nb a + 1)) padL_low (by rw [padL_len hr1]; omega)) ?_ rfl ?_
      · simp (maxSteps := 3000000) (disch := first | exact trivial | assumption | omega | exact rOk | exact rCl | exact rNo) only [go_sem, seval, u32s, hl1, hl2, hla, hk]
        exact LesV_rows (padL_len hr1).symm fun j hj => hrow j hj
      rw [padL_val]
      simp (maxSteps := 3000000) (disch := first | exact trivial | assumption | omega | exact rOk | exact rCl | exact rNo) only [go_sem, seval, u32s, hl1, hl2, hla, hk]
      refine callC (nat_Shr (a := R) (by omega) (s : Int)) ?_ rfl ?_
      · simp (maxSteps := 3000000) (disch := first | exact trivial | assumption | omega | exact rOk | exact rCl | exact rNo) only [go_sem, seval, u32s, hl1, hl2, hla, hk, natD]
      rw [hsn, hRs]
      simp (maxSteps := 3000000) (disch := first | exact trivial | assumption | omega | exact rOk | exact rCl | exact rNo) only [go_sem, seval, u32s, hl1, hl2, hla, hk]
      exact LeV.refl _
end Go.Proofs.YtmcinfbckdiaoaaGreatDoor.Lv
