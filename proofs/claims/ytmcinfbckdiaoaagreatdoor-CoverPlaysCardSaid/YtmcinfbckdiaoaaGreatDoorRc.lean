/- The document's numbers: NatText. The document's numbers: NatText: the walk. The program's numbers: short and cut of a row's first limbs; Reverse. The program's numbers: Text. Texts of whole numbers and quotients, the program's and the document's. What is read as a number is its text; are both the same? -/
import Derived.Test.YtmcinfbckdiaoaaGreatDoorRa
import Derived.Test.YtmcinfbckdiaoaaGreatDoorMb
import Derived.Test.YtmcinfbckdiaoaaGreatDoorNm
import Derived.Test.YtmcinfbckdiaoaaGreatDoorRb
set_option linter.unusedVariables false
set_option linter.unusedSimpArgs false
set_option maxRecDepth 100000
set_option maxHeartbeats 4000000
namespace Go.Proofs.YtmcinfbckdiaoaaGreatDoor.Lv
open Go Go.RowKit
theorem cut_at {l : List Nat} : ∀ k, k ≤ l.length → val (l.take k) = val l → ∃ j, j ≤ l.length ∧ val (l.take j) = val l ∧ ∀ i, i + 1 = j → l.getD i 0 ≠ 0
  | 0, h, e => ⟨0, h, e, fun i hi => by omega⟩
  | k + 1, h, e => by
    by_cases h0 : l.getD k 0 = 0
    · exact cut_at k (by omega) (by rw [← val_take (by omega) h0]; exact e)
    · exact ⟨k + 1, h, e, fun i hi => by
        obtain rfl : i = k := by omega
        exact h0⟩
/-- The limbs of what limbs say are the first of them. -/
theorem limbs_pre {l : List Nat} (hl : lows l) : l.take (nb (val l)) = limbs (val l) ∧ nb (val l) ≤ l.length := by
  obtain ⟨j, h1, h2, h3⟩ := cut_at l.length (Nat.le_refl _) (by rw [List.take_length])
  have e := cut_fin hl h1 h2 h3
  have e2 : nb (val l) = j := by rw [nb, e, List.length_take]; omega
  rw [e2, e]; exact ⟨rfl, h1⟩
theorem ref_trim_own {l : List Nat} (hl : lows l) {N : Nat} (hn : l.length ≤ N) (hN : N < 4611686018427387904) (ver : Nat) {f : Nat → D} (hf : ∀ i, i < l.length → f i = .int .u32 ((l.getD i 0 : Nat) : Int)) :
    CG E 153 [.sl 0 ver 0 l.length] [(0, .row false ver false 1 N f)] (.sl 0 ver 0 (nb (val l))) [(0, .row false ver false 1 N f)] := by
  refine CG_intro Tryz.func153 rfl (by kernel_rfl) rfl (by kernel_rfl) (by kernel_rfl) rfl ?_
  simp (maxSteps := 3000000) (disch := first | exact trivial | assumption | omega | exact rOk | exact rCl | exact rNo) only [go_sem, seval]
  refine AL.of (fun k : Nat => k ≤ l.length ∧ val (l.take k) = val l) (fun k => k) (fun k => [(0, .sl 0 ver 0 l.length), (3, .int .i64 k)]) (fun _ => [(0, .row false ver false 1 N f)]) l.length ⟨by omega, by simp⟩ ?_ ?_ ?_ ?_
  · simp (maxSteps := 3000000) (disch := first | exact trivial | assumption | omega | exact rOk | exact rCl | exact rNo) only [go_sem, seval]
    try exact LeV.refl _
  · simp (maxSteps := 3000000) (disch := first | exact trivial | assumption | omega | exact rOk | exact rCl | exact rNo) only [go_sem, seval]
    try exact fun _ _ => trivial
  · intro x _; simp (maxSteps := 3000000) (disch := first | exact trivial | assumption | omega | exact rOk | exact rCl | exact rNo) only [go_sem, seval]
  rintro k ⟨h1, h2⟩
  have e0 : ((k : Nat) : Int).toNat = k := by omega
  have fin : (∀ j, j + 1 = k → l.getD j 0 ≠ 0) → nb (val l) = k := fun h3 => by
    have e := cut_fin hl h1 h2 h3
    rw [nb, e, List.length_take]; omega
  by_cases hk : 0 < k
  · obtain ⟨j, rfl⟩ : ∃ j, k = j + 1 := ⟨k - 1, by omega⟩
    have ej : (((j + 1 : Nat) : Int) - 1).toNat = j := by omega
    have hfj := hf j (by omega)
    by_cases h0 : l.getD j 0 = 0
    · simp (maxSteps := 3000000) (disch := first | exact trivial | assumption | omega | exact rOk | exact rCl | exact rNo) only [go_sem, seval, ej, hfj]
      refine ⟨j, ⟨by omega, by rw [← val_take (by omega) h0]; exact h2⟩, Nat.lt_succ_self j, ?_, ?_⟩
      · simp (maxSteps := 3000000) (disch := first | exact trivial | assumption | omega | exact rOk | exact rCl | exact rNo) only [go_sem, seval]
        try exact LeV_int (by omega)
      · simp (maxSteps := 3000000) (disch := first | exact trivial | assumption | omega | exact rOk | exact rCl | exact rNo) only [go_sem, seval]
        try exact fun _ _ => trivial
    · have hq := fin fun j' hj' => by
        obtain rfl : j' = j := by omega
        exact h0
      rw [hq]
      simp (maxSteps := 3000000) (disch := first | exact trivial | assumption | omega | exact rOk | exact rCl | exact rNo) only [go_sem, seval, ej, e0, hfj]
      try exact fun _ _ => trivial
  · obtain rfl : k = 0 := by omega
    have hq := fin fun j hj => by omega
    rw [hq]
    simp (maxSteps := 3000000) (disch := first | exact trivial | assumption | omega | exact rOk | exact rCl | exact rNo) only [go_sem, seval]
    try exact fun _ _ => trivial
end Go.Proofs.YtmcinfbckdiaoaaGreatDoor.Lv

set_option linter.unusedVariables false
set_option linter.unusedSimpArgs false
set_option maxRecDepth 100000
set_option maxHeartbeats 4000000
namespace Go.Proofs.YtmcinfbckdiaoaaGreatDoor.Lv
open Go Go.RowKit
/-- The row while a digit is taken out: k limbs are still to do. -/
def dgRow (l t : List Nat) (k : Nat) : List Nat := shRow 10 l k ++ t
theorem dgRow_len (l t : List Nat) (k : Nat) : (dgRow l t k).length = l.length + t.length := by rw [dgRow, List.length_append, shRow_len]
theorem dgRow_at {l t : List Nat} {k : Nat} (hk : k < l.length) : (dgRow l t (k + 1)).getD k 0 = l.getD k 0 := by
  rw [← shRow_at 10 hk, dgRow, List.getD_eq_getElem?_getD, List.getElem?_append_left (by rw [shRow_len]; exact hk), ← List.getD_eq_getElem?_getD]
theorem dgRow_step {l t : List Nat} {k : Nat} (hk : k < l.length) : dgRow l t k = (dgRow l t (k + 1)).set k (((sdiv 10 (l.drop (k + 1))).2 * 4294967296 + l.getD k 0) / 10) := by
  rw [dgRow, dgRow, List.set_append_left _ _ (by rw [shRow_len]; exact hk), ← shRow_step 10 hk]
/-- So many digits are told: the limbs left, what is behind them, the digits. -/
def DtP (n N : Nat) (s : Nat × List Nat × List UInt8) : Prop := nb s.1 + s.2.1.length = N ∧ s.2.2 ++ rdec s.1 = rdec n
theorem DtP.next {n N m : Nat} {t : List Nat} {out : List UInt8} (h : DtP n N (m, t, out)) (h0 : m ≠ 0) :
    DtP n N (m / 10, (sdiv 10 (limbs m)).1.drop (nb (m / 10)) ++ t, out ++ [dg (m % 10)]) ∧ (sdiv 10 (limbs m)).2 = m % 10 ∧ dgRow (limbs m) t 0 = limbs (m / 10) ++ ((sdiv 10 (limbs m)).1.drop (nb (m / 10)) ++ t) ∧ val (sdiv 10 (limbs m)).1 = m / 10 ∧ lows (sdiv 10 (limbs m)).1 ∧ m / 10 < m ∧ (sdiv 10 (limbs m)).1.length = nb m := by
  obtain ⟨h1, h2⟩ := h
  simp only at h1 h2
  have hv := sdiv_val (q := 10) (by omega) (limbs m)
  have hr := sdiv_rem (q := 10) (by omega) (limbs m)
  have hl := sdiv_low (q := 10) (by omega) (limbs_low m)
  have hn := sdiv_len 10 (limbs m)
  rw [val_limbs] at hv
  have e1 : val (sdiv 10 (limbs m)).1 = m / 10 := by omega
  have e2 : (sdiv 10 (limbs m)).2 = m % 10 := by omega
  obtain ⟨p1, p2⟩ := limbs_pre hl
  rw [e1] at p1 p2
  have hnb : (limbs m).length = nb m := rfl
  refine ⟨⟨?_, ?_⟩, e2, ?_, e1, hl, by omega, by omega⟩
  · simp only [List.length_append, List.length_drop]
    omega
  · simp only
    rw [List.append_assoc, ← h2, rdec_pos h0]; rfl
  · rw [dgRow, shRow, List.drop_zero, List.take_zero, List.nil_append, ← List.append_assoc]
    congr 1
    rw [← p1, List.take_append_drop]
/-- Bytes whose ends have changed places, i at each end. -/
def RvP (s : List UInt8) (x : Nat × List UInt8) : Prop := x.1 ≤ s.length / 2 ∧ x.2.length = s.length ∧ ∀ j, j < s.length → x.2.getD j 0 = if j < x.1 ∨ s.length - 1 - x.1 < j then s.getD (s.length - 1 - j) 0 else s.getD j 0
theorem RvP.fin {s : List UInt8} {w : List UInt8} (h : RvP s (s.length / 2, w)) : w = s.reverse := by
  obtain ⟨_, h2, h3⟩ := h
  simp only at h2 h3
  refine List.ext_getElem (by rw [List.length_reverse, h2]) fun j hj1 hj2 => ?_
  have := h3 j (by omega)
  rw [List.getD_eq_getElem?_getD, List.getElem?_eq_getElem hj1] at this
  simp only [Option.getD_some] at this
  rw [this, List.getElem_reverse]
  split
  · rw [List.getD_eq_getElem?_getD, List.getElem?_eq_getElem (by omega)]; rfl
  · have e : s.length - 1 - j = j := by omega
    rw [List.getD_eq_getElem?_getD, List.getElem?_eq_getElem (by omega)]
    simp only [Option.getD_some, e]
theorem RvP.next {s w : List UInt8} {i : Nat} (h : RvP s (i, w)) (hi : i < s.length / 2) : RvP s (i + 1, (w.set i (w.getD (s.length - 1 - i) 0)).set (s.length - 1 - i) (w.getD i 0)) := by
  obtain ⟨_, h2, h3⟩ := h
  simp only at h2 h3
  have hg : ∀ (v : List UInt8) (a b : Nat) (c : UInt8), a < v.length → (v.set a c).getD b 0 = if b = a then c else v.getD b 0 := fun v a b c ha => by
    by_cases e : b = a
    · rw [if_pos e, e, List.getD_eq_getElem?_getD, List.getElem?_set_self ha]; rfl
    · rw [if_neg e, List.getD_eq_getElem?_getD, List.getElem?_set_ne (fun h => e h.symm), ← List.getD_eq_getElem?_getD]
  refine ⟨by show i + 1 ≤ _; omega, by simp only [List.length_set]; exact h2, fun j hj => ?_⟩
  simp only
  rw [hg _ _ _ _ (by rw [List.length_set]; omega), hg _ _ _ _ (by omega), h3 i (by omega), h3 (s.length - 1 - i) (by omega), h3 j hj]
  rw [if_neg (show ¬ (i < i ∨ s.length - 1 - i < i) by omega), if_neg (show ¬ (s.length - 1 - i < i ∨ s.length - 1 - i < s.length - 1 - i) by omega)]
  by_cases h1 : j = s.length - 1 - i
  · subst h1
    rw [if_pos rfl, if_pos (by omega), show s.length - 1 - (s.length - 1 - i) = i by omega]
  · rw [if_neg h1]
    by_cases h4 : j = i
    · subst h4
      rw [if_pos rfl, if_pos (by omega)]
    · rw [if_neg h4]
      by_cases h5 : j < i ∨ s.length - 1 - i < j
      · rw [if_pos h5, if_pos (by omega)]
      · rw [if_neg h5, if_neg (by omega)]
theorem rdec_len {n k : Nat} (h : n < 10 ^ k) : (rdec n).length ≤ k := by
  obtain ⟨z, hz⟩ := lowd_rdec k n h
  have := congrArg List.length hz
  rw [lowd_len, List.length_append] at this
  omega
theorem rdec_nb (n : Nat) : (rdec n).length ≤ 10 * nb n := by
  refine rdec_len (Nat.lt_of_lt_of_le ((nb_lt (n := n) (k := nb n)).1 (Nat.le_refl _)) ?_)
  rw [Nat.pow_mul]
  exact Nat.pow_le_pow_left (by decide) _
theorem bR_set {w : List UInt8} {i : Nat} {c : UInt8} (hi : i < w.length) (j : Nat) : (if j = i then D.int .u8 (c.toNat : Int) else bR w j) = bR (w.set i c) j := by
  unfold bR
  by_cases h : j = i
  · subst h
    rw [if_pos rfl, List.getD_eq_getElem?_getD, List.getElem?_set_self hi]; rfl
  · rw [if_neg h, List.getD_eq_getElem?_getD, List.getD_eq_getElem?_getD, List.getElem?_set_ne (fun e => h e.symm)]
theorem ref_NatText {n : Nat} (hn : nb n < 60000000) : C E 114 [nD n] (.str (dec n)) := by
  refine CG_intro Tryz.func114 rfl (by kernel_rfl) rfl (by kernel_rfl) (by kernel_rfl) rfl ?_
  have hlb : (limbs n).length = nb n := rfl
  by_cases h0 : n = 0
  · subst h0
    have hl0 : nb 0 = 0 := by unfold nb; rw [limbs_zero]; rfl
    have e : dec 0 = [48] := rfl
    rw [e]
    simp (maxSteps := 3000000) (disch := first | exact trivial | assumption | omega | exact rOk | exact rCl | exact rNo) only [go_sem, seval, nD, u32s, hlb, hl0]
    try exact LeV.refl _
  · have hp : 0 < (limbs n).length := limbs_ne h0
    have e : dec n = (rdec n).reverse := by rw [dec, if_neg h0]
    rw [e]
    simp (maxSteps := 3000000) (disch := first | exact trivial | assumption | omega | exact rOk | exact rCl | exact rNo) only [go_sem, seval, nD, u32s, hlb]
    refine ⟨.inl trivial, .inr trivial, by omega, by omega, ?_⟩
    refine AL.ofN 4 false 1 (fun _ => .unk) (DtP n (nb n)) (fun s => s.1) (fun s => [(3, .sl 0 0 0 (nb s.1)), (4, .sl 1 s.2.2.length 0 s.2.2.length)])
      (fun s => [(0, .row false 0 false 1 (nb n) (lR (limbs s.1 ++ s.2.1))), (1, .row false s.2.2.length false 1 s.2.2.length (bR s.2.2))]) (n, [], []) (by simp (maxSteps := 3000000) (disch := first | exact trivial | assumption | omega | exact rOk | exact rCl | exact rNo) only [go_sem, seval]) ⟨rfl, rfl⟩ ?_ ?_ ?_ ?_
    · simp (maxSteps := 3000000) (disch := first | exact trivial | assumption | omega | exact rOk | exact rCl | exact rNo) only [go_sem, seval]
      try exact LesV.refl _
    · simp (maxSteps := 3000000) (disch := first | exact trivial | assumption | omega | exact rOk | exact rCl | exact rNo) only [go_sem, seval]
      exact ⟨fun i hi => Le.refl _, fun i hi => absurd hi (by omega)⟩
    · intro x _; simp (maxSteps := 3000000) (disch := first | exact trivial | assumption | omega | exact rOk | exact rCl | exact rNo) only [go_sem, seval]
    rintro ⟨m, t, out⟩ hP
    by_cases hm : m = 0
    · subst hm
      have hf := hP.2
      simp only [rdec_zero, List.append_nil] at hf
      subst hf
      have hl0 : nb 0 = 0 := by unfold nb; rw [limbs_zero]; rfl
      have hsl := rdec_nb n
      clear hP
      generalize rdec n = s at *
      simp (maxSteps := 3000000) (disch := first | exact trivial | assumption | omega | exact rOk | exact rCl | exact rNo) only [go_sem, seval, hl0]
      have hq : (s.length : Int).tdiv 2 = ((s.length / 2 : Nat) : Int) := (Int.ofNat_tdiv _ _).symm
      have hq2 : (s.length : Int) / 2 = ((s.length / 2 : Nat) : Int) := by omega
      refine AL.of (RvP s) (fun x => s.length / 2 - x.1) (fun x => [(4, .sl 1 s.length 0 s.length), (8, .int .i64 x.1)]) (fun x => [(1, .row false s.length false 1 s.length (bR x.2))]) (0, s)
        ⟨Nat.zero_le _, rfl, fun j hj => by rw [if_neg (by simp only; omega)]⟩ ?_ ?_ ?_ ?_
      · simp (maxSteps := 3000000) (disch := first | exact trivial | assumption | omega | exact rOk | exact rCl | exact rNo) only [go_sem, seval]
        try exact LeV.refl _
      · simp (maxSteps := 3000000) (disch := first | exact trivial | assumption | omega | exact rOk | exact rCl | exact rNo) only [go_sem, seval]
        try exact fun _ _ => trivial
      · intro x _; simp (maxSteps := 3000000) (disch := first | exact trivial | assumption | omega | exact rOk | exact rCl | exact rNo) only [go_sem, seval]
      rintro ⟨i, w⟩ hR
      have hi : i ≤ s.length / 2 := hR.1
      have hwl : w.length = s.length := hR.2.1
      by_cases hil : i = s.length / 2
      · subst hil
        rw [← hR.fin]
        clear hR
        have hb : bstr [(1, .row false s.length false 1 s.length (bR w))] (.sl 1 s.length 0 s.length) = some (.str w) := bstr_bR rfl hwl.symm
        simp (maxSteps := 3000000) (disch := first | exact trivial | assumption | omega | exact rOk | exact rCl | exact rNo) only [go_sem, seval, hq, hq2, hb]
        try exact LeV.refl _
      · have hil' : i < s.length / 2 := by omega
        have hnx := hR.next hil'
        have e1 : ((s.length : Int) - 1 - (i : Int)).toNat = s.length - 1 - i := by omega
        have e2 : ((i : Nat) : Int).toNat = i := by omega
        have b1 : ∀ c j, (if j = i then D.int .u8 ((c : UInt8).toNat : Int) else bR w j) = bR (w.set i c) j := fun c j => bR_set (by omega) j
        clear hR
        simp (maxSteps := 3000000) (disch := first | exact trivial | assumption | omega | exact rOk | exact rCl | exact rNo) only [go_sem, seval, hq, hq2, e1, e2]
        refine ⟨rfl, rfl, rfl, rfl, ?_⟩
        refine ⟨_, hnx, by show s.length / 2 - (i + 1) < s.length / 2 - i; omega, ?_, ?_⟩
        · simp (maxSteps := 3000000) (disch := first | exact trivial | assumption | omega | exact rOk | exact rCl | exact rNo) only [go_sem, seval]
          try exact LeV_int (by omega)
        · simp (maxSteps := 3000000) (disch := first | exact trivial | assumption | omega | exact rOk | exact rCl | exact rNo) only [go_sem, seval]
          intro j hj
          rw [← bR_set (w := w.set i (w.getD (s.length - 1 - i) 0)) (i := s.length - 1 - i) (c := w.getD i 0) (by rw [List.length_set]; omega) j, ← b1]
          exact Le.refl _
    · have hmp : 0 < (limbs m).length := limbs_ne hm
      have hmn : nb m + t.length = nb n := hP.1
      obtain ⟨hnx, x1, x2, x3, x4, x5, x6⟩ := hP.next hm
      have hlm : (limbs m).length = nb m := rfl
      have hP2 : out ++ rdec m = rdec n := hP.2
      clear hP
      simp (maxSteps := 3000000) (disch := first | exact trivial | assumption | omega | exact rOk | exact rCl | exact rNo) only [go_sem, seval]
      refine AL.of (fun k : Nat => k ≤ nb m) (fun k => k) (fun k => [(3, .sl 0 0 0 (nb m)), (4, .sl 1 out.length 0 out.length), (5, .int .u64 (((sdiv 10 ((limbs m).drop k)).2 : Nat) : Int)), (6, .int .i64 ((k : Int) - 1))])
        (fun k => [(0, .row false 0 false 1 (nb n) (lR (dgRow (limbs m) t k))), (1, .row false out.length false 1 out.length (bR out))]) (nb m) (Nat.le_refl _) ?_ ?_ ?_ ?_
      · have e0 : (sdiv 10 ((limbs m).drop (nb m))).2 = 0 := by rw [← hlm, List.drop_length]; rfl
        rw [e0]
        simp (maxSteps := 3000000) (disch := first | exact trivial | assumption | omega | exact rOk | exact rCl | exact rNo) only [go_sem, seval]
        try exact LeV.refl _
      · have e1 : dgRow (limbs m) t (nb m) = limbs m ++ t := by rw [dgRow, shRow, ← hlm, List.drop_length, List.take_length]; rw [show (sdiv 10 ([] : List Nat)).1 = [] from rfl, List.append_nil]
        rw [e1]
        simp (maxSteps := 3000000) (disch := first | exact trivial | assumption | omega | exact rOk | exact rCl | exact rNo) only [go_sem, seval]
        try exact ⟨fun _ _ => trivial, fun _ _ => trivial⟩
      · intro x _; simp (maxSteps := 3000000) (disch := first | exact trivial | assumption | omega | exact rOk | exact rCl | exact rNo) only [go_sem, seval]
      intro k hk
      rcases k with _ | k
      · have hol : out.length ≤ (rdec n).length := by rw [← hP2, List.length_append]; omega
        have hnl := rdec_nb n
        have hT := ref_trim_own x4 (N := nb n) (by omega) (by omega) 0 (f := lR (dgRow (limbs m) t 0)) (fun i hi => by
          rw [lR, dgRow, shRow, List.drop_zero, List.take_zero, List.nil_append, List.getD_eq_getElem?_getD, List.getElem?_append_left hi, ← List.getD_eq_getElem?_getD])
        rw [x3, x6] at hT
        have hdg : IntKind.u8.wrap (48 + ((m % 10 : Nat) : Int)) = ((dg (m % 10)).toNat : Int) := by
          rw [dg_toNat (Nat.mod_lt _ (by omega)), wrap_u8 (by omega)]; omega
        have hdg2 : IntKind.u64.wrap (48 + ((m % 10 : Nat) : Int)) = 48 + ((m % 10 : Nat) : Int) := wrap_u64 (by omega)
        rw [List.drop_zero, x1]
        simp (maxSteps := 3000000) (disch := first | exact trivial | assumption | omega | exact rOk | exact rCl | exact rNo) only [go_sem, seval, hdg, hdg2]
        refine ⟨.inl trivial, .inr trivial, by omega, by omega, ?_⟩
        refine callG [0] hT rfl (by simp (maxSteps := 3000000) (disch := first | exact trivial | assumption | omega | exact rOk | exact rCl | exact rNo) only [go_sem, seval]) ?_ ?_ ?_
        · simp (maxSteps := 3000000) (disch := first | exact trivial | assumption | omega | exact rOk | exact rCl | exact rNo) only [go_sem, seval]
          try exact LesV.refl _
        · simp (maxSteps := 3000000) (disch := first | exact trivial | assumption | omega | exact rOk | exact rCl | exact rNo) only [go_sem, seval]
        simp (maxSteps := 3000000) (disch := first | exact trivial | assumption | omega | exact rOk | exact rCl | exact rNo) only [go_sem, seval]
        refine ⟨_, hnx, x5, ?_, ?_⟩
        · simp (maxSteps := 3000000) (disch := first | exact trivial | assumption | omega | exact rOk | exact rCl | exact rNo) only [go_sem, seval]
          try exact LesV.refl _
        · rw [x2]
          simp (maxSteps := 3000000) (disch := first | exact trivial | assumption | omega | exact rOk | exact rCl | exact rNo) only [go_sem, seval]
          exact ⟨fun _ _ => trivial, fun i hi => Le.of_eq (bR_app out [dg (m % 10)] (by simpa using hi))⟩
      · have g1 := (limbs_low m).getD k
        have r1 := sdiv_rem (q := 10) (by omega) ((limbs m).drop (k + 1))
        have hat := dgRow_at (l := limbs m) (t := t) (k := k) (by omega)
        have hst := dgRow_step (l := limbs m) (t := t) (k := k) (by omega)
        have hrow := fun (d j : Nat) => lR_set' (w := dgRow (limbs m) t (k + 1)) (i := k) (d := d) (j := j) (by rw [dgRow_len]; omega)
        have hs2 : (sdiv 10 ((limbs m).drop k)).2 = ((sdiv 10 ((limbs m).drop (k + 1))).2 * 4294967296 + (limbs m).getD k 0) % 10 := by rw [lim_drop (by omega)]; rfl
        have eo := or_up (sdiv 10 ((limbs m).drop (k + 1))).2 ((limbs m).getD k 0) (by omega) g1
        have hlk : lR (dgRow (limbs m) t (k + 1)) k = .int .u32 (((limbs m).getD k 0 : Nat) : Int) := by rw [lR, hat]
        have ek : (((k + 1 : Nat) : Int) - 1).toNat = k := by omega
        generalize hR : (sdiv 10 ((limbs m).drop (k + 1))).2 = R at *
        generalize hX : (limbs m).getD k 0 = X at *
        have htd : (((R * 4294967296 + X : Nat) : Int)).tdiv (10 : Int) = (((R * 4294967296 + X) / 10 : Nat) : Int) := (Int.ofNat_tdiv _ _).symm
        have htm : (((R * 4294967296 + X : Nat) : Int)).tmod (10 : Int) = (((R * 4294967296 + X) % 10 : Nat) : Int) := (Int.ofNat_tmod _ _).symm
        have hdl : (R * 4294967296 + X) / 10 < 4294967296 := by omega
        have hml : (R * 4294967296 + X) % 10 < 10 := Nat.mod_lt _ (by omega)
        generalize (R * 4294967296 + X) / 10 = Dv at *
        generalize (R * 4294967296 + X) % 10 = Mv at *
        simp (maxSteps := 3000000) (disch := first | exact trivial | assumption | omega | exact rOk | exact rCl | exact rNo) only [go_sem, seval, eo, htd, htm, hlk, ek]
        refine ⟨k, by show k ≤ nb m; omega, by show k < k + 1; omega, ?_, ?_⟩
        · simp (maxSteps := 3000000) (disch := first | exact trivial | assumption | omega | exact rOk | exact rCl | exact rNo) only [go_sem, seval, hs2]
          try exact LeV_int (by omega)
        · simp (maxSteps := 3000000) (disch := first | exact trivial | assumption | omega | exact rOk | exact rCl | exact rNo) only [go_sem, seval, hst, hrow]
          try exact ⟨fun _ _ => trivial, fun _ _ => trivial⟩
end Go.Proofs.YtmcinfbckdiaoaaGreatDoor.Lv

set_option linter.unusedVariables false
set_option linter.unusedSimpArgs false
set_option maxRecDepth 100000
set_option maxHeartbeats 4000000
namespace Go.Proofs.YtmcinfbckdiaoaaGreatDoor.Lv
open Go Go.RowKit
theorem backward_ownN (n N v : Nat) (hN : n ≤ N) (f : Nat → D) : CG E 90 [.sl 0 v 0 n] [(0, .row false v false 1 N f)] (.fn 135 [.ad 1 0]) [(0, .row false v false 1 N f), (1, .var false 1 (.sl 0 v 0 n))] := by
  refine CG_intro Tryz.func90 rfl (by kernel_rfl) rfl (by kernel_rfl) (by kernel_rfl) rfl ?_
  simp (maxSteps := 3000000) (disch := first | exact trivial | assumption | omega | exact rOk | exact rCl | exact rNo) only [go_sem, seval]
  try exact fun _ _ => trivial
def shRowN (q : Nat) (l t : List Nat) (k : Nat) : List Nat := shRow q l k ++ t
theorem shRowN_len (q : Nat) (l t : List Nat) (k : Nat) : (shRowN q l t k).length = l.length + t.length := by rw [shRowN, List.length_append, shRow_len]
theorem shRowN_at (q : Nat) {l t : List Nat} {k : Nat} (hk : k < l.length) : (shRowN q l t (k + 1)).getD k 0 = l.getD k 0 := by
  rw [← shRow_at q hk, shRowN, List.getD_eq_getElem?_getD, List.getElem?_append_left (by rw [shRow_len]; exact hk), ← List.getD_eq_getElem?_getD]
theorem shRowN_step (q : Nat) {l t : List Nat} {k : Nat} (hk : k < l.length) : shRowN q l t k = (shRowN q l t (k + 1)).set k (((sdiv q (l.drop (k + 1))).2 * 4294967296 + l.getD k 0) / q) := by
  rw [shRowN, shRowN, List.set_append_left _ _ (by rw [shRow_len]; exact hk), ← shRow_step q hk]
theorem nat_shortN {l t : List Nat} {N : Nat} (hN : N = l.length + t.length) (hl : lows l) (hn : N < 1073741824) {q : Nat} (hq0 : 0 < q) (hq : q < 4294967296) (v : Nat) : CG E 138 [.sl 0 v 0 l.length, .int .u32 q] [(0, .row false v false 1 N (lR (l ++ t)))]
    (.int .u32 (sdiv q l).2) [(0, .row false v false 1 N (lR ((sdiv q l).1 ++ t)))] := by
  refine CG_intro Tryz.func138 rfl (by kernel_rfl) rfl (by kernel_rfl) (by kernel_rfl) rfl ?_
  simp (maxSteps := 3000000) (disch := first | exact trivial | assumption | omega | exact rOk | exact rCl | exact rNo) only [go_sem, seval]
  refine callG [0] (backward_ownN l.length N v (by omega) (lR (l ++ t))) rfl (by simp (maxSteps := 3000000) (disch := first | exact trivial | assumption | omega | exact rOk | exact rCl | exact rNo) only [go_sem, seval]) ?_ ?_ ?_
  · simp (maxSteps := 3000000) (disch := first | exact trivial | assumption | omega | exact rOk | exact rCl | exact rNo) only [go_sem, seval]
  · simp (maxSteps := 3000000) (disch := first | exact trivial | assumption | omega | exact rOk | exact rCl | exact rNo) only [go_sem, seval]
  simp (maxSteps := 3000000) (disch := first | exact trivial | assumption | omega | exact rOk | exact rCl | exact rNo) only [go_sem, seval]
  refine AB.of 135 5 (fun k : Nat => k ≤ l.length) (fun k => k) (fun _ => [(2, .ad 1 0), (3, .ad 2 0), (5, .ad 3 0), (9, .fn 135 [.ad 5 0])])
    (fun k => [(5, .var false 1 (.sl 0 v 0 l.length)), (3, .var false 1 (.int .u64 (((sdiv q (l.drop k)).2 : Nat) : Int))), (2, .var false 1 (.int .u32 q)), (1, .var false 1 (.sl 0 v 0 l.length)), (0, .row false v false 1 N (lR (shRowN q l t k)))]) l.length bw_u32 (Nat.le_refl _) ?_ ?_ ?_ (y := .sl 0 v 0 l.length) ?_ ?_ (by omega) ?_ ?_ ?_
  · simp (maxSteps := 3000000) (disch := first | exact trivial | assumption | omega | exact rOk | exact rCl | exact rNo) only [go_sem, seval]
  · have e0 : (sdiv q (l.drop l.length)).2 = 0 := by rw [List.drop_length]; rfl
    have e1 : shRowN q l t l.length = l ++ t := by rw [shRowN, shRow, List.drop_length, List.take_length]; rw [show (sdiv q ([] : List Nat)).1 = [] from rfl, List.append_nil]
    rw [e0, e1]
    simp (maxSteps := 3000000) (disch := first | exact trivial | assumption | omega | exact rOk | exact rCl | exact rNo) only [go_sem, seval]
    try exact fun _ _ => trivial
  · simp (maxSteps := 3000000) (disch := first | exact trivial | assumption | omega | exact rOk | exact rCl | exact rNo) only [go_sem, seval]
  · simp (maxSteps := 3000000) (disch := first | exact trivial | assumption | omega | exact rOk | exact rCl | exact rNo) only [go_sem, seval]
  · simp (maxSteps := 3000000) (disch := first | exact trivial | assumption | omega | exact rOk | exact rCl | exact rNo) only [go_sem, seval]
  · intro x' _; simp (maxSteps := 3000000) (disch := first | exact trivial | assumption | omega | exact rOk | exact rCl | exact rNo) only [go_sem, seval]
  · rintro x' h rfl
    have e1 : shRowN q l t 0 = (sdiv q l).1 ++ t := by rw [shRowN, shRow, List.drop_zero, List.take_zero, List.nil_append]
    rw [List.drop_zero, e1]
    have r1 := sdiv_rem hq0 l
    simp (maxSteps := 3000000) (disch := first | exact trivial | assumption | omega | exact rOk | exact rCl | exact rNo) only [go_sem, seval]
    try exact fun _ _ => trivial
  · rintro x' k hk1 hk rfl
    have g1 := hl.getD k
    have r1 := sdiv_rem hq0 (l.drop (k + 1))
    have hat := shRowN_at q (t := t) hk
    have hst := shRowN_step q (t := t) hk
    have hrow := fun (d j : Nat) => lR_set' (w := shRowN q l t (k + 1)) (i := k) (d := d) (j := j) (by rw [shRowN_len]; omega)
    have hs2 : (sdiv q (l.drop k)).2 = ((sdiv q (l.drop (k + 1))).2 * 4294967296 + l.getD k 0) % q := by rw [lim_drop hk]; rfl
    have eo := or_up (sdiv q (l.drop (k + 1))).2 (l.getD k 0) (by omega) g1
    have hd := sdiv_low hq0 (l := l.drop k) (fun y hy => hl y (List.mem_of_mem_drop hy)) (((sdiv q (l.drop (k + 1))).2 * 4294967296 + l.getD k 0) / q) (by rw [lim_drop hk]; exact List.mem_cons_self)
    have hm : ((sdiv q (l.drop (k + 1))).2 * 4294967296 + l.getD k 0) % q < q := Nat.mod_lt _ hq0
    refine ⟨.sl 0 v 0 l.length, .int .u32 ((l.getD k 0 : Nat) : Int), rfl, ?_, ?_⟩
    · simp [elt]
      show (if v = v ∧ 1 = 1 ∧ k < l.length then some (lR (shRowN q l t (k + 1)) k) else none) = _
      rw [if_pos ⟨rfl, rfl, hk⟩, lR, hat, List.getD_eq_getElem?_getD]
    generalize hR : (sdiv q (l.drop (k + 1))).2 = R at *
    generalize hX : l.getD k 0 = X at *
    have htd : (((R * 4294967296 + X : Nat) : Int)).tdiv (q : Int) = (((R * 4294967296 + X) / q : Nat) : Int) := (Int.ofNat_tdiv _ _).symm
    have htm : (((R * 4294967296 + X : Nat) : Int)).tmod (q : Int) = (((R * 4294967296 + X) % q : Nat) : Int) := (Int.ofNat_tmod _ _).symm
    generalize (R * 4294967296 + X) / q = Dv at *
    generalize (R * 4294967296 + X) % q = Mv at *
    simp (maxSteps := 3000000) (disch := first | exact trivial | assumption | omega | exact rOk | exact rCl | exact rNo) only [go_sem, seval, eo, htd, htm, hR]
    refine BGo.of k (by simp (maxSteps := 3000000) (disch := first | exact trivial | assumption | omega | exact rOk | exact rCl | exact rNo) only [go_sem, seval]) (by omega) rfl (by simp [mx]) ?_ ?_
    · simp (maxSteps := 3000000) (disch := first | exact trivial | assumption | omega | exact rOk | exact rCl | exact rNo) only [go_sem, seval]
    · simp (maxSteps := 3000000) (disch := first | exact trivial | assumption | omega | exact rOk | exact rCl | exact rNo) only [go_sem, seval, hs2, hst, hrow]
      try exact fun _ _ => trivial
theorem nat_cutN {l : List Nat} (hl : lows l) {N : Nat} (hn : l.length ≤ N) (hN : N < 4611686018427387904) (ver : Nat) {f : Nat → D} (hf : ∀ i, i < l.length → f i = .int .u32 ((l.getD i 0 : Nat) : Int)) :
    CG E 98 [.sl 0 ver 0 l.length] [(0, .row false ver false 1 N f)] (.agg [.sl 0 ver 0 (nb (val l))]) [(0, .row false ver false 1 N f)] := by
  refine CG_intro Tryz.func98 rfl (by kernel_rfl) rfl (by kernel_rfl) (by kernel_rfl) rfl ?_
  simp (maxSteps := 3000000) (disch := first | exact trivial | assumption | omega | exact rOk | exact rCl | exact rNo) only [go_sem, seval]
  refine AL.of (fun k : Nat => k ≤ l.length ∧ val (l.take k) = val l) (fun k => k) (fun k => [(0, .sl 0 ver 0 k), (2, .ad 1 0)]) (fun _ => [(0, .row false ver false 1 N f), (1, .var true 1 (.agg [.nils]))]) l.length ⟨by omega, by simp⟩ ?_ ?_ ?_ ?_
  · simp (maxSteps := 3000000) (disch := first | exact trivial | assumption | omega | exact rOk | exact rCl | exact rNo) only [go_sem, seval]
  · simp (maxSteps := 3000000) (disch := first | exact trivial | assumption | omega | exact rOk | exact rCl | exact rNo) only [go_sem, seval]
    try exact fun _ _ => trivial
  · intro x _; simp (maxSteps := 3000000) (disch := first | exact trivial | assumption | omega | exact rOk | exact rCl | exact rNo) only [go_sem, seval]
  rintro k ⟨h1, h2⟩
  have fin : (∀ j, j + 1 = k → l.getD j 0 ≠ 0) → nb (val l) = k := fun h3 => by
    have e := cut_fin hl h1 h2 h3
    rw [nb, e, List.length_take]; omega
  by_cases hk : 0 < k
  · obtain ⟨j, rfl⟩ : ∃ j, k = j + 1 := ⟨k - 1, by omega⟩
    have ej : (((j + 1 : Nat) : Int) - 1).toNat = j := by omega
    have hfj := hf j (by omega)
    by_cases h0 : l.getD j 0 = 0
    · simp (maxSteps := 3000000) (disch := first | exact trivial | assumption | omega | exact rOk | exact rCl | exact rNo) only [go_sem, seval, ej, hfj]
      refine ⟨j, ⟨by omega, by rw [← val_take (by omega) h0]; exact h2⟩, Nat.lt_succ_self j, ?_, ?_⟩
      · simp (maxSteps := 3000000) (disch := first | exact trivial | assumption | omega | exact rOk | exact rCl | exact rNo) only [go_sem, seval]
      · simp (maxSteps := 3000000) (disch := first | exact trivial | assumption | omega | exact rOk | exact rCl | exact rNo) only [go_sem, seval]
        try exact fun _ _ => trivial
    · have hq := fin fun j' hj' => by
        obtain rfl : j' = j := by omega
        exact h0
      rw [hq]
      simp (maxSteps := 3000000) (disch := first | exact trivial | assumption | omega | exact rOk | exact rCl | exact rNo) only [go_sem, seval, ej, hfj]
      try exact fun _ _ => trivial
  · obtain rfl : k = 0 := by omega
    have hq := fin fun j hj => by omega
    rw [hq]
    simp (maxSteps := 3000000) (disch := first | exact trivial | assumption | omega | exact rOk | exact rCl | exact rNo) only [go_sem, seval]
    try exact fun _ _ => trivial
theorem getD_app {w z : List UInt8} {i : Nat} (h : i < w.length) : (w ++ z).getD i 0 = w.getD i 0 := by
  rw [List.getD_eq_getElem?_getD, List.getElem?_append_left h, ← List.getD_eq_getElem?_getD]
theorem slices_Reverse (s z : List UInt8) (v N : Nat) (hN : N = s.length + z.length) (hs : N < 4611686018427387904) :
    CG E 152 [.sl 0 v 0 s.length] [(0, .row false v false 1 N (bR (s ++ z)))] (.tup []) [(0, .row false v false 1 N (bR (s.reverse ++ z)))] := by
  refine CG_intro Tryz.func152 rfl (by kernel_rfl) rfl (by kernel_rfl) (by kernel_rfl) rfl ?_
  simp (maxSteps := 3000000) (disch := first | exact trivial | assumption | omega | exact rOk | exact rCl | exact rNo) only [go_sem, seval]
  refine AL.of (RvP s) (fun x => s.length / 2 - x.1) (fun x => [(0, .sl 0 v 0 s.length), (2, .int .i64 x.1), (3, .int .i64 ((s.length : Int) - 1 - x.1))]) (fun x => [(0, .row false v false 1 N (bR (x.2 ++ z)))]) (0, s)
    ⟨Nat.zero_le _, rfl, fun j hj => by rw [if_neg (by simp only; omega)]⟩ ?_ ?_ ?_ ?_
  · simp (maxSteps := 3000000) (disch := first | exact trivial | assumption | omega | exact rOk | exact rCl | exact rNo) only [go_sem, seval]
    try exact LeV_int (by omega)
  · simp (maxSteps := 3000000) (disch := first | exact trivial | assumption | omega | exact rOk | exact rCl | exact rNo) only [go_sem, seval]
    try exact fun _ _ => trivial
  · intro x _; simp (maxSteps := 3000000) (disch := first | exact trivial | assumption | omega | exact rOk | exact rCl | exact rNo) only [go_sem, seval]
  rintro ⟨i, w⟩ hR
  have hi : i ≤ s.length / 2 := hR.1
  have hwl : w.length = s.length := hR.2.1
  by_cases hil : i = s.length / 2
  · subst hil
    rw [← hR.fin]
    clear hR
    have hd : decide (((s.length / 2 : Nat) : Int) < (s.length : Int) - 1 - ((s.length / 2 : Nat) : Int)) = false := decide_eq_false (by omega)
    simp (maxSteps := 3000000) (disch := first | exact trivial | assumption | omega | exact rOk | exact rCl | exact rNo) only [go_sem, seval, hd]
    try exact fun _ _ => trivial
  · have hil' : i < s.length / 2 := by omega
    have hnx := hR.next hil'
    have e1 : ((s.length : Int) - 1 - (i : Int)).toNat = s.length - 1 - i := by omega
    have e2 : ((i : Nat) : Int).toNat = i := by omega
    have hd : decide ((i : Int) < (s.length : Int) - 1 - (i : Int)) = true := decide_eq_true (by omega)
    have b1 : ∀ c j, (if j = i then D.int .u8 ((c : UInt8).toNat : Int) else bR (w ++ z) j) = bR ((w ++ z).set i c) j := fun c j => bR_set (by rw [List.length_append]; omega) j
    have g1 : (w ++ z).getD (s.length - 1 - i) 0 = w.getD (s.length - 1 - i) 0 := getD_app (by omega)
    have g2 : (w ++ z).getD i 0 = w.getD i 0 := getD_app (by omega)
    have h1 : (w ++ z).set i (w.getD (s.length - 1 - i) 0) = w.set i (w.getD (s.length - 1 - i) 0) ++ z := List.set_append_left _ _ (by omega)
    have h2 : (w.set i (w.getD (s.length - 1 - i) 0) ++ z).set (s.length - 1 - i) (w.getD i 0) = (w.set i (w.getD (s.length - 1 - i) 0)).set (s.length - 1 - i) (w.getD i 0) ++ z := List.set_append_left _ _ (by rw [List.length_set]; omega)
    clear hR
    simp (maxSteps := 3000000) (disch := first | exact trivial | assumption | omega | exact rOk | exact rCl | exact rNo) only [go_sem, seval, e1, e2, hd]
    refine ⟨rfl, rfl, rfl, rfl, ?_⟩
    refine ⟨_, hnx, by show s.length / 2 - (i + 1) < s.length / 2 - i; omega, ?_, ?_⟩
    · simp (maxSteps := 3000000) (disch := first | exact trivial | assumption | omega | exact rOk | exact rCl | exact rNo) only [go_sem, seval]
      try exact ⟨LeV_int (by omega), LeV_int (by omega)⟩
    · simp (maxSteps := 3000000) (disch := first | exact trivial | assumption | omega | exact rOk | exact rCl | exact rNo) only [go_sem, seval]
      intro j hj
      rw [← h2, ← bR_set (w := w.set i (w.getD (s.length - 1 - i) 0) ++ z) (i := s.length - 1 - i) (c := w.getD i 0) (by rw [List.length_append, List.length_set]; omega) j, ← h1, ← b1, ← g1, ← g2]
      exact Le.refl _
end Go.Proofs.YtmcinfbckdiaoaaGreatDoor.Lv

set_option linter.unusedVariables false
set_option linter.unusedSimpArgs false
set_option maxRecDepth 100000
set_option maxHeartbeats 4000000
namespace Go.Proofs.YtmcinfbckdiaoaaGreatDoor.Lv
open Go Go.RowKit
/-- So many groups are told: the limbs left, what is behind them, how many digits. -/
def TxP (n N : Nat) (s : Nat × List Nat × Nat) : Prop := nb s.1 + s.2.1.length = N ∧ s.1 = n / 10 ^ s.2.2 ∧ s.2.2 ≤ 32 * nb n + 9
theorem lowd_snoc (j n : Nat) : lowd (j + 1) n = lowd j n ++ [dg (n / 10 ^ j % 10)] := by
  rw [lowd_add j 1]; rfl
theorem TxP.dig {n N m j : Nat} {t : List Nat} (h : TxP n N (m, t, j)) {i : Nat} (hi : i < 9) : m % 1000000000 / 10 ^ i % 10 = n / 10 ^ (j + i) % 10 := by
  have h2 : m = n / 10 ^ j := h.2.1
  rw [Nat.pow_add, ← Nat.div_div_eq_div_mul, ← h2]
  rcases i with _ | _ | _ | _ | _ | _ | _ | _ | _ | i
  all_goals first
    | omega
    | (simp only [Nat.reduceAdd, Nat.reducePow, Nat.zero_add]; omega)
theorem TxP.next {n N m j : Nat} {t : List Nat} (h : TxP n N (m, t, j)) (h0 : m ≠ 0) :
    TxP n N (m / 1000000000, (sdiv 1000000000 (limbs m)).1.drop (nb (m / 1000000000)) ++ t, j + 9) ∧ (sdiv 1000000000 (limbs m)).2 = m % 1000000000 ∧ (sdiv 1000000000 (limbs m)).1 ++ t = limbs (m / 1000000000) ++ ((sdiv 1000000000 (limbs m)).1.drop (nb (m / 1000000000)) ++ t) ∧ val (sdiv 1000000000 (limbs m)).1 = m / 1000000000 ∧ lows (sdiv 1000000000 (limbs m)).1 ∧ m / 1000000000 < m ∧ (sdiv 1000000000 (limbs m)).1.length = nb m := by
  obtain ⟨h1, h2, h3⟩ := h
  simp only at h1 h2 h3
  have hj : j < 32 * nb n := by
    have a1 : 10 ^ j ≤ n := by
      refine Nat.le_of_not_lt fun hlt => h0 ?_
      rw [h2, Nat.div_eq_of_lt hlt]
    have a2 := (nb_lt (n := n) (k := nb n)).1 (Nat.le_refl _)
    have a3 : 2 ^ j ≤ 10 ^ j := Nat.pow_le_pow_left (by omega) _
    have a4 : (4294967296 : Nat) ^ nb n = 2 ^ (32 * nb n) := by rw [Nat.pow_mul]
    rw [a4] at a2
    exact (Nat.pow_lt_pow_iff_right (a := 2) (by omega)).1 (Nat.lt_of_le_of_lt (Nat.le_trans a3 a1) a2)
  have hv := sdiv_val (q := 1000000000) (by omega) (limbs m)
  have hr := sdiv_rem (q := 1000000000) (by omega) (limbs m)
  have hl := sdiv_low (q := 1000000000) (by omega) (limbs_low m)
  have hn := sdiv_len 1000000000 (limbs m)
  rw [val_limbs] at hv
  have e1 : val (sdiv 1000000000 (limbs m)).1 = m / 1000000000 := by omega
  have e2 : (sdiv 1000000000 (limbs m)).2 = m % 1000000000 := by omega
  obtain ⟨p1, p2⟩ := limbs_pre hl
  rw [e1] at p1 p2
  have hnb : (limbs m).length = nb m := rfl
  refine ⟨⟨?_, ?_, by show j + 9 ≤ _; omega⟩, e2, ?_, e1, hl, by omega, by omega⟩
  · simp only [List.length_append, List.length_drop]
    omega
  · simp only
    rw [Nat.pow_add, ← Nat.div_div_eq_div_mul, ← h2]
  · rw [← List.append_assoc]
    congr 1
    rw [← p1, List.take_append_drop]
theorem clone_u32_nil : C E 137 [u32s []] (u32s []) := by
  refine CG_intro Tryz.func137 rfl (by kernel_rfl) rfl (by kernel_rfl) (by kernel_rfl) rfl ?_
  simp (maxSteps := 3000000) (disch := first | exact trivial | assumption | omega | exact rOk | exact rCl | exact rNo) only [go_sem, seval, u32s]
  intro b hb
  cases b with
  | false =>
    rw [KE_eq]
    simp (maxSteps := 3000000) (disch := first | exact trivial | assumption | omega | exact rOk | exact rCl | exact rNo) only [go_sem, seval]
    exact ⟨.inl trivial, .inr trivial, LeV.ro rfl fun i hi => absurd hi (by omega)⟩
  | true =>
    rw [KE_eq]
    simp (maxSteps := 3000000) (disch := first | exact trivial | assumption | omega | exact rOk | exact rCl | exact rNo) only [go_sem, seval]
    exact LeV.nils
theorem u8_ne48 {c : UInt8} (h : c ≠ 48) : ((c.toNat : Int) == 48) = false :=
  beq_eq_false_iff_ne.2 fun e => h (UInt8.toNat_inj.1 (show c.toNat = 48 by omega))
theorem nat_Text {n : Nat} (hn : nb n < 60000000) : C E 110 [natD n] (.str (dec n)) := by
  refine CG_intro Tryz.func110 rfl (by kernel_rfl) rfl (by kernel_rfl) (by kernel_rfl) rfl ?_
  have hlb : (limbs n).length = nb n := rfl
  by_cases h0 : n = 0
  · subst h0
    have e : dec 0 = [48] := rfl
    rw [e, natD_u32s, limbs_zero]
    simp (maxSteps := 3000000) (disch := first | exact trivial | assumption | omega | exact rOk | exact rCl | exact rNo) only [go_sem, seval]
    refine callC clone_u32_nil ?_ rfl ?_
    · simp (maxSteps := 3000000) (disch := first | exact trivial | assumption | omega | exact rOk | exact rCl | exact rNo) only [go_sem, seval]
      try exact LesV.refl _
    simp (maxSteps := 3000000) (disch := first | exact trivial | assumption | omega | exact rOk | exact rCl | exact rNo) only [go_sem, seval, u32s]
    refine AL.step ?_
    simp (maxSteps := 3000000) (disch := first | exact trivial | assumption | omega | exact rOk | exact rCl | exact rNo) only [go_sem, seval, u32s]
    refine AL.step ?_
    simp (maxSteps := 3000000) (disch := first | exact trivial | assumption | omega | exact rOk | exact rCl | exact rNo) only [go_sem, seval, u32s]
    try exact LeV.refl _
  · have hp : 0 < (limbs n).length := limbs_ne h0
    have e : dec n = (rdec n).reverse := by rw [dec, if_neg h0]
    rw [e, natD_u32s]
    simp (maxSteps := 3000000) (disch := first | exact trivial | assumption | omega | exact rOk | exact rCl | exact rNo) only [go_sem, seval]
    refine callN (clone_u32 (l := limbs n) (List.length_pos_iff.1 hp) (by omega)) ?_ ?_
    · simp (maxSteps := 3000000) (disch := first | exact trivial | assumption | omega | exact rOk | exact rCl | exact rNo) only [go_sem, seval]
      try exact LesV.refl _
    simp (maxSteps := 3000000) (disch := first | exact trivial | assumption | omega | exact rOk | exact rCl | exact rNo) only [go_sem, seval]
    refine AL.ofN 4 false 1 (fun _ => .unk) (TxP n (nb n)) (fun s => s.1) (fun s => [(3, .sl 1 1 0 (nb s.1)), (4, .sl 2 s.2.2 0 s.2.2)])
      (fun s => [(1, .row false 1 false 1 (nb n) (lR (limbs s.1 ++ s.2.1))), (2, .row false s.2.2 false 1 s.2.2 (bR (lowd s.2.2 n)))]) (n, [], 0) (by simp (maxSteps := 3000000) (disch := first | exact trivial | assumption | omega | exact rOk | exact rCl | exact rNo) only [go_sem, seval]) ⟨rfl, by simp, Nat.zero_le _⟩ ?_ ?_ ?_ ?_
    · simp (maxSteps := 3000000) (disch := first | exact trivial | assumption | omega | exact rOk | exact rCl | exact rNo) only [go_sem, seval, hlb]
      try exact LesV.refl _
    · simp (maxSteps := 3000000) (disch := first | exact trivial | assumption | omega | exact rOk | exact rCl | exact rNo) only [go_sem, seval, hlb]
      exact ⟨fun _ _ => trivial, fun i hi => absurd hi (by omega)⟩
    · intro x _; simp (maxSteps := 3000000) (disch := first | exact trivial | assumption | omega | exact rOk | exact rCl | exact rNo) only [go_sem, seval]
    rintro ⟨m, t, j⟩ hP
    by_cases hm : m = 0
    · subst hm
      have hf : 0 = n / 10 ^ j := hP.2.1
      have hjb : j ≤ 32 * nb n + 9 := hP.2.2
      have hnj : n < 10 ^ j := by
        have := (Nat.div_eq_zero_iff (a := n) (b := 10 ^ j)).1 hf.symm
        rcases this with h | h
        · exact absurd h (by have := Nat.pow_pos (n := j) (show 0 < 10 by omega); omega)
        · exact h
      obtain ⟨z, hz⟩ := lowd_rdec j n hnj
      have hjl : j = (rdec n).length + z := by
        have := congrArg List.length hz
        rw [lowd_len, List.length_append, List.length_replicate] at this; exact this
      have hl0 : nb 0 = 0 := by unfold nb; rw [limbs_zero]; rfl
      have hsn : (rdec n).length ≠ 0 := by rw [rdec_pos h0]; simp
      have hla := rdec_last (n := n)
      clear hP hf hnj
      generalize hlo : lowd j n = lo at *
      subst hz
      generalize rdec n = s at *
      simp (maxSteps := 3000000) (disch := first | exact trivial | assumption | omega | exact rOk | exact rCl | exact rNo) only [go_sem, seval, hl0]
      refine AL.of (fun k : Nat => s.length ≤ k ∧ k ≤ j) (fun k => k) (fun k => [(4, .sl 2 j 0 k)]) (fun _ => [(2, .row false j false 1 j (bR (s ++ List.replicate z 48)))]) j ⟨by omega, Nat.le_refl _⟩ ?_ ?_ ?_ ?_
      · simp (maxSteps := 3000000) (disch := first | exact trivial | assumption | omega | exact rOk | exact rCl | exact rNo) only [go_sem, seval]
        try exact LeV.refl _
      · simp (maxSteps := 3000000) (disch := first | exact trivial | assumption | omega | exact rOk | exact rCl | exact rNo) only [go_sem, seval]
        try exact fun _ _ => trivial
      · intro x _; simp (maxSteps := 3000000) (disch := first | exact trivial | assumption | omega | exact rOk | exact rCl | exact rNo) only [go_sem, seval]
      rintro k ⟨hk1, hk2⟩
      obtain ⟨i, rfl⟩ : ∃ i, k = i + 1 := ⟨k - 1, by omega⟩
      have ei : (((i + 1 : Nat) : Int) - 1).toNat = i := by omega
      by_cases hks : i + 1 = s.length
      · have hb : bR (s ++ List.replicate z 48) i = .int .u8 ((s.getD i 0).toNat : Int) := by unfold bR; rw [getD_app (by omega)]
        have hne : (((s.getD i 0).toNat : Int) == 48) = false := u8_ne48 (hla i hks)
        have hR := slices_Reverse s (List.replicate z 48) j j (by rw [List.length_replicate]; exact hjl) (by omega)
        have ei' : ((s.length : Int) - 1).toNat = i := by omega
        have hbs : bstr [(2, .row false j false 1 j (bR (s.reverse ++ List.replicate z 48)))] (.sl 2 j 0 s.length) = some (.str s.reverse) :=
          bstr_of rfl (by simp) fun i hi => by unfold bR; rw [getD_app (by rw [List.length_reverse]; exact hi)]
        rw [hks]
        simp (maxSteps := 3000000) (disch := first | exact trivial | assumption | omega | exact rOk | exact rCl | exact rNo) only [go_sem, seval, ei', hb, hne]
        refine callG [2] hR rfl (by simp (maxSteps := 3000000) (disch := first | exact trivial | assumption | omega | exact rOk | exact rCl | exact rNo) only [go_sem, seval]) ?_ ?_ ?_
        · simp (maxSteps := 3000000) (disch := first | exact trivial | assumption | omega | exact rOk | exact rCl | exact rNo) only [go_sem, seval]
          try exact LesV.refl _
        · simp (maxSteps := 3000000) (disch := first | exact trivial | assumption | omega | exact rOk | exact rCl | exact rNo) only [go_sem, seval]
        simp (maxSteps := 3000000) (disch := first | exact trivial | assumption | omega | exact rOk | exact rCl | exact rNo) only [go_sem, seval, hbs]
        try exact LeV.refl _
      · have hb : bR (s ++ List.replicate z 48) i = .int .u8 48 := by
          unfold bR
          rw [List.getD_eq_getElem?_getD, List.getElem?_append_right (by omega), List.getElem?_replicate, if_pos (by omega)]
          rfl
        simp (maxSteps := 3000000) (disch := first | exact trivial | assumption | omega | exact rOk | exact rCl | exact rNo) only [go_sem, seval, ei, hb]
        refine ⟨i, ⟨by omega, by omega⟩, Nat.lt_succ_self i, ?_, ?_⟩
        · simp (maxSteps := 3000000) (disch := first | exact trivial | assumption | omega | exact rOk | exact rCl | exact rNo) only [go_sem, seval]
          try exact LeV.refl _
        · simp (maxSteps := 3000000) (disch := first | exact trivial | assumption | omega | exact rOk | exact rCl | exact rNo) only [go_sem, seval]
          try exact fun _ _ => trivial
    · have hmp : 0 < (limbs m).length := limbs_ne hm
      have hmn : nb m + t.length = nb n := hP.1
      obtain ⟨hnx, x1, x2, x3, x4, x5, x6⟩ := hP.next hm
      have hdig := fun i hi => hP.dig (i := i) hi
      have hlm : (limbs m).length = nb m := rfl
      have hS := nat_shortN (l := limbs m) (t := t) (N := nb n) (by omega) (limbs_low m) (by omega) (q := 1000000000) (by omega) (by omega) 1
      rw [hlm, x1] at hS
      clear hP
      simp (maxSteps := 3000000) (disch := first | exact trivial | assumption | omega | exact rOk | exact rCl | exact rNo) only [go_sem, seval]
      refine callG [1] hS rfl (by simp (maxSteps := 3000000) (disch := first | exact trivial | assumption | omega | exact rOk | exact rCl | exact rNo) only [go_sem, seval]) ?_ ?_ ?_
      · simp (maxSteps := 3000000) (disch := first | exact trivial | assumption | omega | exact rOk | exact rCl | exact rNo) only [go_sem, seval]
        try exact LesV.refl _
      · simp (maxSteps := 3000000) (disch := first | exact trivial | assumption | omega | exact rOk | exact rCl | exact rNo) only [go_sem, seval]
      simp (maxSteps := 3000000) (disch := first | exact trivial | assumption | omega | exact rOk | exact rCl | exact rNo) only [go_sem, seval]
      have hjb : j ≤ 32 * nb n + 9 := by have := hnx.2.2; simp only at this; omega
      refine AL.of (fun i : Nat => i ≤ 9) (fun i => 9 - i) (fun i => [(3, .sl 1 1 0 (nb m)), (4, .sl 2 (j + i) 0 (j + i)), (5, .int .u32 ((m % 1000000000 / 10 ^ i : Nat) : Int)), (14, .int .i64 i)])
        (fun i => [(1, .row false 1 false 1 (nb n) (lR ((sdiv 1000000000 (limbs m)).1 ++ t))), (2, .row false (j + i) false 1 (j + i) (bR (lowd (j + i) n)))]) 0 (Nat.zero_le _) ?_ ?_ ?_ ?_
      · simp (maxSteps := 3000000) (disch := first | exact trivial | assumption | omega | exact rOk | exact rCl | exact rNo) only [go_sem, seval]
        try exact LeV_int (by simp)
      · simp (maxSteps := 3000000) (disch := first | exact trivial | assumption | omega | exact rOk | exact rCl | exact rNo) only [go_sem, seval]
        try exact ⟨fun _ _ => trivial, fun _ _ => trivial⟩
      · intro x _; simp (maxSteps := 3000000) (disch := first | exact trivial | assumption | omega | exact rOk | exact rCl | exact rNo) only [go_sem, seval]
      intro i hi
      by_cases hi9 : i = 9
      · subst hi9
        have hC := nat_cutN x4 (N := nb n) (by omega) (by omega) 1 (f := lR ((sdiv 1000000000 (limbs m)).1 ++ t)) (fun i hi => by
          rw [lR, List.getD_eq_getElem?_getD, List.getElem?_append_left hi, ← List.getD_eq_getElem?_getD])
        rw [x3, x6] at hC
        simp (maxSteps := 3000000) (disch := first | exact trivial | assumption | omega | exact rOk | exact rCl | exact rNo) only [go_sem, seval]
        refine callG [1] hC rfl (by simp (maxSteps := 3000000) (disch := first | exact trivial | assumption | omega | exact rOk | exact rCl | exact rNo) only [go_sem, seval]) ?_ ?_ ?_
        · simp (maxSteps := 3000000) (disch := first | exact trivial | assumption | omega | exact rOk | exact rCl | exact rNo) only [go_sem, seval]
          try exact LesV.refl _
        · simp (maxSteps := 3000000) (disch := first | exact trivial | assumption | omega | exact rOk | exact rCl | exact rNo) only [go_sem, seval]
        simp (maxSteps := 3000000) (disch := first | exact trivial | assumption | omega | exact rOk | exact rCl | exact rNo) only [go_sem, seval]
        refine ⟨_, hnx, x5, ?_, ?_⟩
        · simp (maxSteps := 3000000) (disch := first | exact trivial | assumption | omega | exact rOk | exact rCl | exact rNo) only [go_sem, seval]
          try exact LesV.refl _
        · simp (maxSteps := 3000000) (disch := first | exact trivial | assumption | omega | exact rOk | exact rCl | exact rNo) only [go_sem, seval, ← x2]
          try exact ⟨fun _ _ => trivial, fun _ _ => trivial⟩
      · have hi' : i < 9 := by omega
        have hd := hdig i hi'
        have hsn := lowd_snoc (j + i) n
        have hnext : m % 1000000000 / 10 ^ (i + 1) = m % 1000000000 / 10 ^ i / 10 := by rw [Nat.pow_succ, Nat.div_div_eq_div_mul]
        have hlt : m % 1000000000 / 10 ^ i < 1000000000 := Nat.lt_of_le_of_lt (Nat.div_le_self _ _) (Nat.mod_lt _ (by omega))
        rw [← hd] at hsn
        clear hd hdig hS
        generalize hR : m % 1000000000 / 10 ^ i = R at *
        have htm : ((R : Nat) : Int).tmod 10 = ((R % 10 : Nat) : Int) := (Int.ofNat_tmod _ _).symm
        have htd : ((R : Nat) : Int).tdiv 10 = ((R / 10 : Nat) : Int) := (Int.ofNat_tdiv _ _).symm
        have hr10 : R % 10 < 10 := Nat.mod_lt _ (by omega)
        have hdg : 48 + ((R % 10 : Nat) : Int) = ((dg (R % 10)).toNat : Int) := by rw [dg_toNat hr10]; omega
        have hdl : (dg (R % 10)).toNat < 256 := (dg (R % 10)).toNat_lt
        simp (maxSteps := 3000000) (disch := first | exact trivial | assumption | omega | exact rOk | exact rCl | exact rNo) only [go_sem, seval, htm, htd, hdg, hR]
        refine ⟨.inl trivial, .inr trivial, by omega, by omega, ?_⟩
        have hz := lowd_len (j + i) n
        refine ⟨i + 1, by show i + 1 ≤ 9; omega, by show 9 - (i + 1) < 9 - i; omega, ?_, ?_⟩
        · show EnvLe _ _ _ [(3, .sl 1 1 0 (nb m)), (4, .sl 2 (j + i + 1) 0 (j + i + 1)), (5, .int .u32 ((m % 1000000000 / 10 ^ (i + 1) : Nat) : Int)), (14, .int .i64 ((i + 1 : Nat) : Int))]
          simp (maxSteps := 3000000) (disch := first | exact trivial | assumption | omega | exact rOk | exact rCl | exact rNo) only [go_sem, seval, hnext]
          try exact LeV_int (by omega)
        · show HLe _ _ [(1, .row false 1 false 1 (nb n) (lR ((sdiv 1000000000 (limbs m)).1 ++ t))), (2, .row false (j + i + 1) false 1 (j + i + 1) (bR (lowd (j + i + 1) n)))]
          rw [hsn]
          simp (maxSteps := 3000000) (disch := first | exact trivial | assumption | omega | exact rOk | exact rCl | exact rNo) only [go_sem, seval]
          refine ⟨fun _ _ => trivial, fun a ha => Le.of_eq ?_⟩
          have := bR_app (lowd (j + i) n) [dg (R % 10)] (i := a) (by rw [List.length_append, hz]; exact ha)
          rw [hz] at this
          exact this
end Go.Proofs.YtmcinfbckdiaoaaGreatDoor.Lv

set_option linter.unusedVariables false
set_option linter.unusedSimpArgs false
set_option maxRecDepth 100000
set_option maxHeartbeats 4000000
namespace Go.Proofs.YtmcinfbckdiaoaaGreatDoor.Lv
open Go Go.RowKit
theorem dec_len (n : Nat) : (dec n).length ≤ 10 * nb n + 1 := by
  unfold dec
  have := rdec_nb n
  split
  · simp
  · rw [List.length_reverse]; omega
def decZ (z : Int) : List UInt8 := if z < 0 then 45 :: dec z.natAbs else dec z.natAbs
theorem decZ_len (z : Int) : (decZ z).length ≤ 10 * zb z + 2 := by
  have := dec_len z.natAbs
  unfold decZ zb
  split
  · rw [List.length_cons]; omega
  · omega
def decQ (q : Rat) : List UInt8 := if q.den = 1 then decZ q.num else decZ q.num ++ 47 :: dec q.den
theorem whole_Text {z : Int} (hz : zb z < 60000000) : C E 109 [zD z] (.str (decZ z)) := by
  refine CG_intro Tryz.func109 rfl (by kernel_rfl) rfl (by kernel_rfl) (by kernel_rfl) rfl ?_
  have hz' : nb z.natAbs < 60000000 := hz
  have hT := nat_Text hz'
  have hl := dec_len z.natAbs
  by_cases h : z < 0
  · have e : decZ z = 45 :: dec z.natAbs := by unfold decZ; rw [if_pos h]
    have hd : decide (z < 0) = true := decide_eq_true h
    rw [e]
    simp (maxSteps := 3000000) (disch := first | exact trivial | assumption | omega | exact rOk | exact rCl | exact rNo) only [go_sem, seval, hd]
    refine callC hT ?_ rfl ?_
    · simp (maxSteps := 3000000) (disch := first | exact trivial | assumption | omega | exact rOk | exact rCl | exact rNo) only [go_sem, seval, natD_u32s]
      try exact LesV.refl _
    simp (maxSteps := 3000000) (disch := first | exact trivial | assumption | omega | exact rOk | exact rCl | exact rNo) only [go_sem, seval]
    try exact LeV.refl _
  · have e : decZ z = dec z.natAbs := by unfold decZ; rw [if_neg h]
    have hd : decide (z < 0) = false := decide_eq_false h
    rw [e]
    simp (maxSteps := 3000000) (disch := first | exact trivial | assumption | omega | exact rOk | exact rCl | exact rNo) only [go_sem, seval, hd]
    refine callC hT ?_ rfl ?_
    · simp (maxSteps := 3000000) (disch := first | exact trivial | assumption | omega | exact rOk | exact rCl | exact rNo) only [go_sem, seval, natD_u32s]
      try exact LesV.refl _
    simp (maxSteps := 3000000) (disch := first | exact trivial | assumption | omega | exact rOk | exact rCl | exact rNo) only [go_sem, seval]
    try exact LeV.refl _
theorem rat_Text {q : Rat} (hq : qb 40000000 q) : C E 70 [qD q] (.str (decQ q)) := by
  refine CG_intro Tryz.func70 rfl (by kernel_rfl) rfl (by kernel_rfl) (by kernel_rfl) rfl ?_
  have n1 := nb_qden q
  obtain ⟨q1, q2⟩ := hq
  have hZ := whole_Text (z := q.num) (by omega)
  have hD := nat_Text (n := qden q) (by omega)
  have hB := nat_Bits (n := qden q) (by omega)
  have l1 := decZ_len q.num
  have l2 := dec_len q.den
  by_cases h : q.den = 1
  · have e : decQ q = decZ q.num := by unfold decQ; rw [if_pos h]
    have e0 : qden q = 0 := by unfold qden; rw [if_pos h]
    have eb : ((nbit (qden q) : Nat) : Int) = 0 := by rw [e0]; rfl
    rw [e]
    simp (maxSteps := 3000000) (disch := first | exact trivial | assumption | omega | exact rOk | exact rCl | exact rNo) only [go_sem, seval]
    refine callC hB ?_ rfl ?_
    · simp (maxSteps := 3000000) (disch := first | exact trivial | assumption | omega | exact rOk | exact rCl | exact rNo) only [go_sem, seval, natD_u32s]
      try exact LesV.refl _
    simp (maxSteps := 3000000) (disch := first | exact trivial | assumption | omega | exact rOk | exact rCl | exact rNo) only [go_sem, seval, eb]
    refine callC hZ ?_ rfl ?_
    · simp (maxSteps := 3000000) (disch := first | exact trivial | assumption | omega | exact rOk | exact rCl | exact rNo) only [go_sem, seval, natD_u32s]
      try exact LesV.refl _
    simp (maxSteps := 3000000) (disch := first | exact trivial | assumption | omega | exact rOk | exact rCl | exact rNo) only [go_sem, seval]
    try exact LeV.refl _
  · have e : decQ q = decZ q.num ++ 47 :: dec q.den := by unfold decQ; rw [if_neg h]
    have e0 : qden q = q.den := by unfold qden; rw [if_neg h]
    have hp := nbit_pos (n := qden q) (by rw [e0]; exact q.den_pos)
    have eb : (((nbit (qden q) : Nat) : Int) == 0) = false := beq_eq_false_iff_ne.2 (by omega)
    rw [e]
    rw [e0] at hD
    simp (maxSteps := 3000000) (disch := first | exact trivial | assumption | omega | exact rOk | exact rCl | exact rNo) only [go_sem, seval]
    refine callC hB ?_ rfl ?_
    · simp (maxSteps := 3000000) (disch := first | exact trivial | assumption | omega | exact rOk | exact rCl | exact rNo) only [go_sem, seval, natD_u32s]
      try exact LesV.refl _
    simp (maxSteps := 3000000) (disch := first | exact trivial | assumption | omega | exact rOk | exact rCl | exact rNo) only [go_sem, seval, eb]
    refine callCl hZ ?_ rfl ?_
    · simp (maxSteps := 3000000) (disch := first | exact trivial | assumption | omega | exact rOk | exact rCl | exact rNo) only [go_sem, seval, natD_u32s]
      try exact LesV.refl _
    simp (maxSteps := 3000000) (disch := first | exact trivial | assumption | omega | exact rOk | exact rCl | exact rNo) only [go_sem, seval]
    refine callCl hD ?_ rfl ?_
    · simp (maxSteps := 3000000) (disch := first | exact trivial | assumption | omega | exact rOk | exact rCl | exact rNo) only [go_sem, seval, natD_u32s, e0]
      try exact LesV.refl _
    simp (maxSteps := 3000000) (disch := first | exact trivial | assumption | omega | exact rOk | exact rCl | exact rNo) only [go_sem, seval]
    exact LeV.of_eq (by rw [List.append_assoc]; rfl)
theorem ref_IntText {z : Int} (hz : zb z < 60000000) : C E 113 [iD z] (.str (decZ z)) := by
  refine CG_intro Tryz.func113 rfl (by kernel_rfl) rfl (by kernel_rfl) (by kernel_rfl) rfl ?_
  have hz' : nb z.natAbs < 60000000 := hz
  have hT := ref_NatText hz'
  have hl := dec_len z.natAbs
  by_cases h : z < 0
  · have e : decZ z = 45 :: dec z.natAbs := by unfold decZ; rw [if_pos h]
    have hd : decide (z < 0) = true := decide_eq_true h
    rw [e]
    simp (maxSteps := 3000000) (disch := first | exact trivial | assumption | omega | exact rOk | exact rCl | exact rNo) only [go_sem, seval, iD, hd]
    refine callC hT ?_ rfl ?_
    · simp (maxSteps := 3000000) (disch := first | exact trivial | assumption | omega | exact rOk | exact rCl | exact rNo) only [go_sem, seval]
      try exact LesV.refl _
    simp (maxSteps := 3000000) (disch := first | exact trivial | assumption | omega | exact rOk | exact rCl | exact rNo) only [go_sem, seval]
    try exact LeV.refl _
  · have e : decZ z = dec z.natAbs := by unfold decZ; rw [if_neg h]
    have hd : decide (z < 0) = false := decide_eq_false h
    rw [e]
    simp (maxSteps := 3000000) (disch := first | exact trivial | assumption | omega | exact rOk | exact rCl | exact rNo) only [go_sem, seval, iD, hd]
    refine callC hT ?_ rfl ?_
    · simp (maxSteps := 3000000) (disch := first | exact trivial | assumption | omega | exact rOk | exact rCl | exact rNo) only [go_sem, seval]
      try exact LesV.refl _
    simp (maxSteps := 3000000) (disch := first | exact trivial | assumption | omega | exact rOk | exact rCl | exact rNo) only [go_sem, seval]
    try exact LeV.refl _
theorem ref_RatText {q : Rat} (hq : qb 40000000 q) : C E 71 [rqD q] (.str (decQ q)) := by
  refine CG_intro Tryz.func71 rfl (by kernel_rfl) rfl (by kernel_rfl) (by kernel_rfl) rfl ?_
  have hD0 := ref_Den (hq.qs (by omega))
  obtain ⟨q1, q2⟩ := hq
  have hZ := ref_IntText (z := q.num) (by omega)
  have hD := ref_NatText (n := q.den) (by omega)
  have h1nb : nb 1 ≤ 1 := nb_lt.2 (by omega)
  have hC := ref_CmpNat (a := q.den) (b := 1) (by omega) (by omega)
  have hO := ref_NatOf (v := 1) (by omega)
  have l1 := decZ_len q.num
  have l2 := dec_len q.den
  by_cases h : q.den = 1
  · have e : decQ q = decZ q.num := by unfold decQ; rw [if_pos h]
    have es : sgI ((q.den : Nat) : Int) ((1 : Nat) : Int) = 0 := by rw [h]; rfl
    rw [e]
    rw [es] at hC
    simp (maxSteps := 3000000) (disch := first | exact trivial | assumption | omega | exact rOk | exact rCl | exact rNo) only [go_sem, seval]
    refine callCl hD0 ?_ rfl ?_
    · simp (maxSteps := 3000000) (disch := first | exact trivial | assumption | omega | exact rOk | exact rCl | exact rNo) only [go_sem, seval]
      try exact LesV.refl _
    simp (maxSteps := 3000000) (disch := first | exact trivial | assumption | omega | exact rOk | exact rCl | exact rNo) only [go_sem, seval]
    refine callCl hO ?_ rfl ?_
    · simp (maxSteps := 3000000) (disch := first | exact trivial | assumption | omega | exact rOk | exact rCl | exact rNo) only [go_sem, seval]
      try exact LesV.refl _
    simp (maxSteps := 3000000) (disch := first | exact trivial | assumption | omega | exact rOk | exact rCl | exact rNo) only [go_sem, seval]
    refine callCl hC ?_ rfl ?_
    · simp (maxSteps := 3000000) (disch := first | exact trivial | assumption | omega | exact rOk | exact rCl | exact rNo) only [go_sem, seval]
      try exact LesV.refl _
    simp (maxSteps := 3000000) (disch := first | exact trivial | assumption | omega | exact rOk | exact rCl | exact rNo) only [go_sem, seval]
    refine callC hZ ?_ rfl ?_
    · simp (maxSteps := 3000000) (disch := first | exact trivial | assumption | omega | exact rOk | exact rCl | exact rNo) only [go_sem, seval]
      try exact LesV.refl _
    simp (maxSteps := 3000000) (disch := first | exact trivial | assumption | omega | exact rOk | exact rCl | exact rNo) only [go_sem, seval]
    try exact LeV.refl _
  · have e : decQ q = decZ q.num ++ 47 :: dec q.den := by unfold decQ; rw [if_neg h]
    have hp := q.den_pos
    have es : sgI ((q.den : Nat) : Int) ((1 : Nat) : Int) = 1 := sgI_gt (by omega)
    rw [e]
    rw [es] at hC
    simp (maxSteps := 3000000) (disch := first | exact trivial | assumption | omega | exact rOk | exact rCl | exact rNo) only [go_sem, seval]
    refine callCl hD0 ?_ rfl ?_
    · simp (maxSteps := 3000000) (disch := first | exact trivial | assumption | omega | exact rOk | exact rCl | exact rNo) only [go_sem, seval]
      try exact LesV.refl _
    simp (maxSteps := 3000000) (disch := first | exact trivial | assumption | omega | exact rOk | exact rCl | exact rNo) only [go_sem, seval]
    refine callCl hO ?_ rfl ?_
    · simp (maxSteps := 3000000) (disch := first | exact trivial | assumption | omega | exact rOk | exact rCl | exact rNo) only [go_sem, seval]
      try exact LesV.refl _
    simp (maxSteps := 3000000) (disch := first | exact trivial | assumption | omega | exact rOk | exact rCl | exact rNo) only [go_sem, seval]
    refine callCl hC ?_ rfl ?_
    · simp (maxSteps := 3000000) (disch := first | exact trivial | assumption | omega | exact rOk | exact rCl | exact rNo) only [go_sem, seval]
      try exact LesV.refl _
    simp (maxSteps := 3000000) (disch := first | exact trivial | assumption | omega | exact rOk | exact rCl | exact rNo) only [go_sem, seval]
    refine callCl hZ ?_ rfl ?_
    · simp (maxSteps := 3000000) (disch := first | exact trivial | assumption | omega | exact rOk | exact rCl | exact rNo) only [go_sem, seval]
      try exact LesV.refl _
    simp (maxSteps := 3000000) (disch := first | exact trivial | assumption | omega | exact rOk | exact rCl | exact rNo) only [go_sem, seval]
    refine callCl hD ?_ rfl ?_
    · simp (maxSteps := 3000000) (disch := first | exact trivial | assumption | omega | exact rOk | exact rCl | exact rNo) only [go_sem, seval]
      try exact LesV.refl _
    simp (maxSteps := 3000000) (disch := first | exact trivial | assumption | omega | exact rOk | exact rCl | exact rNo) only [go_sem, seval]
    exact LeV.of_eq (by rw [List.append_assoc]; rfl)
end Go.Proofs.YtmcinfbckdiaoaaGreatDoor.Lv

set_option linter.unusedVariables false
set_option linter.unusedSimpArgs false
set_option maxRecDepth 100000
set_option maxHeartbeats 4000000
namespace Go.Proofs.YtmcinfbckdiaoaaGreatDoor.Lv
open Go Go.RowKit
theorem okNat_txt {s : List UInt8} (h : okNat s = true) : NatTxt s := by
  obtain ⟨h3, h4⟩ := okNat_len h
  simp only [okNat, Bool.and_eq_true, Bool.not_eq_true', decide_eq_true_eq, Bool.and_eq_false_iff, decide_eq_false_iff_not] at h
  obtain ⟨⟨⟨h1, h2⟩, h5⟩, _⟩ := h
  refine ⟨fun e => (by rw [e] at h1; cases h1), h3, fun e => ?_, h4⟩
  have hl : s.length ≠ 0 := fun e => by rw [List.length_eq_zero_iff] at e; rw [e] at h1; cases h1
  rcases h5 with h5 | h5
  · rw [e] at h5; cases h5
  · omega
theorem zpO_text {s : List UInt8} {z : Int} (h : zpO s = some z) : decZ z = s := by
  unfold zpO at h
  split at h
  · rename_i hm
    split at h
    · rename_i hc
      cases h
      have e : s = 45 :: s.drop 1 := by
        cases s with
        | nil => exact absurd rfl hm.1
        | cons c r =>
          have hc := hm.2
          rw [List.getD_cons_zero] at hc
          have : c = 45 := UInt8.toNat_inj.1 (by rw [hc]; rfl)
          rw [this]; rfl
      unfold decZ
      rw [if_pos (by have := hc.2; omega), Int.natAbs_neg, Int.natAbs_natCast, dec_dval (okNat_txt hc.1), ← e]
    · cases h
  · split at h
    · rename_i hc
      cases h
      unfold decZ
      rw [if_neg (by omega), Int.natAbs_natCast, dec_dval (okNat_txt hc)]
    · cases h
theorem ib_get : ∀ (s : List UInt8) (c : UInt8), 0 ≤ Lib.indexByte s c → (Lib.indexByte s c).toNat < s.length ∧ s.getD (Lib.indexByte s c).toNat 0 = c
  | [], c, h => by simp [Lib.indexByte] at h
  | b :: l, c, h => by
    have ih := ib_get l c
    by_cases e : (b == c) = true
    · have : Lib.indexByte (b :: l) c = 0 := by simp [Lib.indexByte, e]
      rw [this]
      exact ⟨by simp, by simpa using e⟩
    · have e' : (b == c) = false := by simpa using e
      by_cases h0 : Lib.indexByte l c = -1
      · have : Lib.indexByte (b :: l) c = -1 := by simp [Lib.indexByte, e', h0]
        rw [this] at h; omega
      · have h1 : Lib.indexByte (b :: l) c = Lib.indexByte l c + 1 := by simp [Lib.indexByte, e', h0]
        rw [h1] at h ⊢
        obtain ⟨g1, g2⟩ := ih (by omega)
        have e2 : (Lib.indexByte l c + 1).toNat = (Lib.indexByte l c).toNat + 1 := by omega
        rw [e2]
        exact ⟨by simp; omega, by rw [List.getD_cons_succ]; exact g2⟩
theorem rpO_text {s : List UInt8} {q : Rat} (h : rpO s = some q) : decQ q = s := by
  unfold rpO at h
  split at h
  · rename_i h0
    obtain ⟨g1, g2⟩ := ib_get s 47 h0
    generalize (Lib.indexByte s 47).toNat = k at *
    cases hz : zpO (s.take k) with
    | none => rw [hz] at h; cases h
    | some n =>
      rw [hz] at h
      simp only at h
      split at h
      · rename_i hc
        obtain ⟨hc1, hc2, hc3⟩ := hc
        cases h
        have t1 := zpO_text hz
        have t2 := dec_dval (okNat_txt hc1)
        generalize dval (s.drop (k + 1)) = d at *
        obtain ⟨m0, m1, m2⟩ := mk_parts n d (by omega)
        have mk2 := mk_num (n := n) (d := d) (by omega)
        rw [hc3, Nat.div_one] at mk2 m2
        rw [mkZ_self] at mk2
        unfold decQ
        rw [m2, ← mk2, if_neg (by omega), t1, t2]
        conv => rhs; rw [← List.take_append_drop k s, List.drop_eq_getElem_cons g1]
        rw [List.getD_eq_getElem?_getD, List.getElem?_eq_getElem g1] at g2
        simp only [Option.getD_some] at g2
        rw [g2]
      · cases h
  · rw [Option.map_eq_some_iff] at h
    obtain ⟨n, hz, rfl⟩ := h
    unfold decQ
    rw [Rat.den_intCast, if_pos rfl, Rat.num_intCast, zpO_text hz]
theorem law3_Is {q : Rat} (hq : qb 40000000 q) : C E 37 [qD q, rqD q] (.bool true) := by
  refine CG_intro Tryz.func37 rfl (by kernel_rfl) rfl (by kernel_rfl) (by kernel_rfl) rfl ?_
  have h1 := rat_Text hq
  have h2 := ref_RatText hq
  generalize decQ q = s at *
  simp (maxSteps := 3000000) (disch := first | exact trivial | assumption | omega | exact rOk | exact rCl | exact rNo) only [go_sem, seval]
  refine callCl h1 ?_ rfl ?_
  · simp (maxSteps := 3000000) (disch := first | exact trivial | assumption | omega | exact rOk | exact rCl | exact rNo) only [go_sem, seval]
    try exact LesV.refl _
  simp (maxSteps := 3000000) (disch := first | exact trivial | assumption | omega | exact rOk | exact rCl | exact rNo) only [go_sem, seval]
  refine callCl h2 ?_ rfl ?_
  · simp (maxSteps := 3000000) (disch := first | exact trivial | assumption | omega | exact rOk | exact rCl | exact rNo) only [go_sem, seval]
    try exact LesV.refl _
  simp (maxSteps := 3000000) (disch := first | exact trivial | assumption | omega | exact rOk | exact rCl | exact rNo) only [go_sem, seval]
  try exact LeV.refl _
theorem law5_Is {p : Rat × Rat} (h1 : qb 40000000 p.1) (h2 : qb 40000000 p.2) : C E 66 [sD p, rsD p] (.bool true) := by
  refine CG_intro Tryz.func66 rfl (by kernel_rfl) rfl (by kernel_rfl) (by kernel_rfl) rfl ?_
  have h1 := law3_Is h1
  have h2 := law3_Is h2
  simp (maxSteps := 3000000) (disch := first | exact trivial | assumption | omega | exact rOk | exact rCl | exact rNo) only [go_sem, seval]
  refine callC h1 ?_ rfl ?_
  · simp (maxSteps := 3000000) (disch := first | exact trivial | assumption | omega | exact rOk | exact rCl | exact rNo) only [go_sem, seval]
    try exact LesV.refl _
  simp (maxSteps := 3000000) (disch := first | exact trivial | assumption | omega | exact rOk | exact rCl | exact rNo) only [go_sem, seval]
  refine callC h2 ?_ rfl ?_
  · simp (maxSteps := 3000000) (disch := first | exact trivial | assumption | omega | exact rOk | exact rCl | exact rNo) only [go_sem, seval]
    try exact LesV.refl _
  simp (maxSteps := 3000000) (disch := first | exact trivial | assumption | omega | exact rOk | exact rCl | exact rNo) only [go_sem, seval]
  try exact LeV.refl _
theorem law6_Is {l : List (Rat × Rat)} (hq : ∀ p ∈ l, qb 40000000 p.1 ∧ qb 40000000 p.2) (hl : l.length < 1073741824) : C E 23 [bxD l, rbD l] (.bool true) := by
  refine CG_intro Tryz.func23 rfl (by kernel_rfl) rfl (by kernel_rfl) (by kernel_rfl) rfl ?_
  simp (maxSteps := 3000000) (disch := first | exact trivial | assumption | omega | exact rOk | exact rCl | exact rNo) only [go_sem, seval, bxD, rbD]
  refine AL.of (fun i : Nat => i ≤ l.length) (fun i => l.length - i) (fun i => [(0, bxD l), (1, rbD l), (5, .int .i64 i)]) (fun _ => []) 0 (Nat.zero_le _) ?_ ?_ ?_ ?_
  · simp (maxSteps := 3000000) (disch := first | exact trivial | assumption | omega | exact rOk | exact rCl | exact rNo) only [go_sem, seval, bxD, rbD]
    try exact LeV.refl _
  · simp (maxSteps := 3000000) (disch := first | exact trivial | assumption | omega | exact rOk | exact rCl | exact rNo) only [go_sem, seval]
  · intro x _; simp (maxSteps := 3000000) (disch := first | exact trivial | assumption | omega | exact rOk | exact rCl | exact rNo) only [go_sem, seval]
  intro i hi
  by_cases hil : i = l.length
  · subst hil
    simp (maxSteps := 3000000) (disch := first | exact trivial | assumption | omega | exact rOk | exact rCl | exact rNo) only [go_sem, seval, bxD, rbD]
  · have hil' : i < l.length := by omega
    have hm : l.getD i (0, 0) ∈ l := by
      rw [List.getD_eq_getElem?_getD, List.getElem?_eq_getElem hil']; exact List.getElem_mem hil'
    have hp : pR l i = sD (l.getD i (0, 0)) := rfl
    have hr : rsR l i = rsD (l.getD i (0, 0)) := rfl
    obtain ⟨q1, q2⟩ := hq _ hm
    have h := law5_Is q1 q2
    generalize l.getD i (0, 0) = p at *
    simp (maxSteps := 3000000) (disch := first | exact trivial | assumption | omega | exact rOk | exact rCl | exact rNo) only [go_sem, seval, bxD, rbD, hp, hr]
    refine callCl h ?_ rfl ?_
    · simp (maxSteps := 3000000) (disch := first | exact trivial | assumption | omega | exact rOk | exact rCl | exact rNo) only [go_sem, seval]
      try exact LesV.refl _
    simp (maxSteps := 3000000) (disch := first | exact trivial | assumption | omega | exact rOk | exact rCl | exact rNo) only [go_sem, seval, bxD, rbD]
    refine ⟨i + 1, hil', by show l.length - (i + 1) < l.length - i; omega, ?_, ?_⟩
    · simp (maxSteps := 3000000) (disch := first | exact trivial | assumption | omega | exact rOk | exact rCl | exact rNo) only [go_sem, seval, bxD, rbD]
      try exact LeV_int (by omega)
    · simp (maxSteps := 3000000) (disch := first | exact trivial | assumption | omega | exact rOk | exact rCl | exact rNo) only [go_sem, seval]
end Go.Proofs.YtmcinfbckdiaoaaGreatDoor.Lv
