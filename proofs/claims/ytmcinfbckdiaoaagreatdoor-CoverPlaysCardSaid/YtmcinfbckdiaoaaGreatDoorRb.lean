/- The document's numbers: NatParse. The document's numbers: quotients: Parse, Cmp, Dyadic. The document's quotients: RatParse. The document's intervals and boxes: SpanParse, BoxParse. -/
import Derived.Test.YtmcinfbckdiaoaaGreatDoorRa
import Derived.Test.YtmcinfbckdiaoaaGreatDoorPI
import Derived.Test.YtmcinfbckdiaoaaGreatDoorQB
import Derived.Test.YtmcinfbckdiaoaaGreatDoorEa
import Derived.Test.YtmcinfbckdiaoaaGreatDoorQA
import Derived.Test.YtmcinfbckdiaoaaGreatDoorQE
set_option linter.unusedVariables false
set_option linter.unusedSimpArgs false
set_option maxRecDepth 100000
set_option maxHeartbeats 4000000
namespace Go.Proofs.YtmcinfbckdiaoaaGreatDoor.Lv
open Go Go.RowKit
def rnD (s : List UInt8) : D := .tup [if okNat s = true then nD (dval s) else .nils, .bool (okNat s)]
theorem rnD_no {s : List UInt8} (h : okNat s = false) : rnD s = .tup [.nils, .bool false] := by rw [rnD, h]; rfl
theorem rnD_yes {s : List UInt8} (h : okNat s = true) : rnD s = .tup [nD (dval s), .bool true] := by rw [rnD, h]; rfl
theorem ref_NatParse (s : List UInt8) (hs : s.length < 9223372036854775808) : C E 123 [.str s] (rnD s) := by
  refine CG_intro Tryz.func123 rfl (by kernel_rfl) rfl (by kernel_rfl) (by kernel_rfl) rfl ?_
  by_cases h0 : s = []
  · subst h0
    have e : ([] : List UInt8).length = 0 := rfl
    rw [rnD_no rfl]
    simp (maxSteps := 3000000) (disch := first | exact trivial | assumption | omega | exact rOk | exact rCl | exact rNo) only [go_sem, seval, e]
  have e0 : (s == []) = false := beq_eq_false_iff_ne.2 h0
  have hpos : 0 < s.length := List.length_pos_iff.2 h0
  by_cases h1 : 4000 < s.length
  · rw [rnD_no (by simp only [okNat]; rw [decide_eq_false (show ¬ s.length ≤ 4000 by omega)]; simp)]
    simp (maxSteps := 3000000) (disch := first | exact trivial | assumption | omega | exact rOk | exact rCl | exact rNo) only [go_sem, seval]
  have hc0 := (s.getD 0 0).toNat_lt
  by_cases h2 : (s.getD 0 0).toNat = 48 ∧ 1 < s.length
  · obtain ⟨h2, h3⟩ := h2
    rw [rnD_no (by simp only [okNat, h2]; rw [decide_eq_true h3]; simp)]
    simp (maxSteps := 3000000) (disch := first | exact trivial | assumption | omega | exact rOk | exact rCl | exact rNo) only [go_sem, seval, h2]
  have hok : okNat s = s.all isDig := by
    have : ((s.getD 0 0).toNat == 48 && decide (1 < s.length)) = false := by
      rw [Bool.and_eq_false_iff]
      by_cases h : (s.getD 0 0).toNat = 48
      · exact .inr (decide_eq_false fun h' => h2 ⟨h, h'⟩)
      · exact .inl (beq_eq_false_iff_ne.2 h)
    simp only [okNat, this, e0]
    rw [decide_eq_true (show s.length ≤ 4000 by omega)]
    rfl
  have inv : ∀ {Q : Prop}, ((s.getD 0 0).toNat = 48 → s.length = 1 → Q) → ((s.getD 0 0).toNat ≠ 48 → Q) → Q := fun {Q} q1 q2 => by
    by_cases h : (s.getD 0 0).toNat = 48
    · exact q1 h (by omega)
    · exact q2 h
  refine inv (fun k1 k2 => ?_) (fun k1 => ?_)
  all_goals
    simp (maxSteps := 3000000) (disch := first | exact trivial | assumption | omega | exact rOk | exact rCl | exact rNo) only [go_sem, seval, k1, Nat.reduceEqDiff]
    refine AL.ofN 4 false 1 (lR []) (fun i : Nat => i ≤ s.length ∧ ∀ c ∈ s.take i, isDig c = true) (fun i => s.length - i)
      (fun i => [(0, .str s), (4, .sl 0 (nb (dval (s.take i))) 0 (nb (dval (s.take i)))), (5, .int .i64 i)])
      (fun i => [(0, .row false (nb (dval (s.take i))) false 1 (nb (dval (s.take i))) (lR (limbs (dval (s.take i)))))]) 0 (by simp (maxSteps := 3000000) (disch := first | exact trivial | assumption | omega | exact rOk | exact rCl | exact rNo) only [go_sem, seval]) ⟨by omega, fun c h => by cases h⟩ ?_ ?_ ?_ ?_
    · have z : nb (dval []) = 0 := by rw [show dval [] = 0 from rfl, nb, limbs_zero]; rfl
      simp (maxSteps := 3000000) (disch := first | exact trivial | assumption | omega | exact rOk | exact rCl | exact rNo) only [go_sem, seval, z]
    · have z : nb (dval []) = 0 := by rw [show dval [] = 0 from rfl, nb, limbs_zero]; rfl
      simp (maxSteps := 3000000) (disch := first | exact trivial | assumption | omega | exact rOk | exact rCl | exact rNo) only [go_sem, seval, z]
      try exact fun i hi => absurd hi (by omega)
    · intro x _; simp (maxSteps := 3000000) (disch := first | exact trivial | assumption | omega | exact rOk | exact rCl | exact rNo) only [go_sem, seval]
    rintro i ⟨hi, hd⟩
    have ei : ((i : Nat) : Int).toNat = i := by omega
    by_cases hil : i = s.length
    · subst hil
      rw [List.take_length] at hd
      rw [rnD_yes (by rw [hok, List.all_eq_true]; exact hd)]
      simp (maxSteps := 3000000) (disch := first | exact trivial | assumption | omega | exact rOk | exact rCl | exact rNo) only [go_sem, seval, List.take_length]
      rw [nD, u32s_lR]
      exact LeV.refl _
    have hi' : i < s.length := by omega
    have hcm : s.getD i 0 ∈ s := by rw [List.getD_eq_getElem?_getD, List.getElem?_eq_getElem hi']; exact List.getElem_mem hi'
    have hcl := (s.getD i 0).toNat_lt
    by_cases hc : isDig (s.getD i 0) = true
    · have hc' : 48 ≤ (s.getD i 0).toNat ∧ (s.getD i 0).toNat ≤ 57 := by simpa only [isDig, decide_eq_true_eq] using hc
      have hv := dval_take s i hi'
      have hnb := dval_nb (s.take i) hd
      rw [List.length_take] at hnb
      have hd1 : ∀ c ∈ s.take (i + 1), isDig c = true := fun c hcc => by
        rw [List.take_add_one, List.getElem?_eq_getElem hi'] at hcc
        rcases List.mem_append.1 hcc with h | h
        · exact hd c h
        · have e : c = s[i] := by simpa using h
          rw [List.getD_eq_getElem?_getD, List.getElem?_eq_getElem hi'] at hc
          rw [e]; exact hc
      generalize hx : (s.getD i 0).toNat = x at *
      have ex : ((x : Int) - 48) = ((x - 48 : Nat) : Int) := by omega
      obtain ⟨r, hr⟩ : ∃ r, r = x - 48 := ⟨_, rfl⟩
      rw [← hr] at hv ex
      have hr9 : r ≤ 9 := by omega
      have hnx : dval (s.take (i + 1)) = dval (s.take i) * 10 + r := hv
      have hml := limbs_low (dval (s.take i))
      have hN : (limbs (dval (s.take i))).length = nb (dval (s.take i)) := rfl
      have hgz : GroP (limbs (dval (s.take i))) 10 r (0, r, limbs (dval (s.take i))) := ⟨by simp, by simp only; omega, rfl, hml, rfl, by simp [val]⟩
      simp (maxSteps := 3000000) (disch := first | exact trivial | assumption | omega | exact rOk | exact rCl | exact rNo) only [go_sem, seval, hx, ex]
      generalize hm : dval (s.take i) = m at *
      refine AL.of (GroP (limbs m) 10 r) (fun z => nb m - z.1) (fun z => [(0, .str s), (4, .sl 0 (nb m) 0 (nb m)), (5, .int .i64 i), (6, .int .u64 z.2.1), (7, .int .i64 z.1)])
        (fun z => [(0, .row false (nb m) false 1 (nb m) (lR z.2.2))]) (0, r, limbs m) hgz ?_ ?_ ?_ ?_
      · simp (maxSteps := 3000000) (disch := first | exact trivial | assumption | omega | exact rOk | exact rCl | exact rNo) only [go_sem, seval, hm]
      · simp (maxSteps := 3000000) (disch := first | exact trivial | assumption | omega | exact rOk | exact rCl | exact rNo) only [go_sem, seval, hm]
        try exact fun _ _ => trivial
      · intro x _; simp (maxSteps := 3000000) (disch := first | exact trivial | assumption | omega | exact rOk | exact rCl | exact rNo) only [go_sem, seval]
      rintro ⟨k, c, w⟩ hP
      have hcc := hP.2.1
      have hwl := hP.2.2.1
      have hk0 := hP.1
      simp only at hcc hwl hk0
      rw [hN] at hwl hk0
      by_cases hk : k = nb m
      · subst hk
        obtain ⟨f1, f2⟩ := GroP.fin (m := m) (q := 10) (by omega) hP
        clear hP hgz hml
        by_cases hc0 : c = 0
        · have e := f1 hc0
          have eN : nb (m * 10 + r) = nb m := by unfold nb; rw [e]; exact hwl
          simp (maxSteps := 3000000) (disch := first | exact trivial | assumption | omega | exact rOk | exact rCl | exact rNo) only [go_sem, seval]
          refine ⟨i + 1, ⟨by omega, hd1⟩, by show s.length - (i + 1) < s.length - i; omega, ?_, ?_⟩
          · simp (maxSteps := 3000000) (disch := first | exact trivial | assumption | omega | exact rOk | exact rCl | exact rNo) only [go_sem, seval, hnx, eN]
            try exact LeV_int (by omega)
          · simp (maxSteps := 3000000) (disch := first | exact trivial | assumption | omega | exact rOk | exact rCl | exact rNo) only [go_sem, seval, hnx, eN, e]
            try exact fun _ _ => trivial
        · have e := f2 (by omega)
          have eN : nb (m * 10 + r) = nb m + 1 := by unfold nb; rw [e, List.length_append, List.length_singleton, hwl]; rfl
          have ew : IntKind.u32.wrap (c : Int) = (c : Int) := wrap_u32 (by omega)
          simp (maxSteps := 3000000) (disch := first | exact trivial | assumption | omega | exact rOk | exact rCl | exact rNo) only [go_sem, seval, ew]
          refine ⟨.inl trivial, .inr trivial, by omega, by omega, ?_⟩
          refine ⟨i + 1, ⟨by omega, hd1⟩, by show s.length - (i + 1) < s.length - i; omega, ?_, ?_⟩
          · simp (maxSteps := 3000000) (disch := first | exact trivial | assumption | omega | exact rOk | exact rCl | exact rNo) only [go_sem, seval, hnx, eN]
            try exact LeV_int (by omega)
          · simp (maxSteps := 3000000) (disch := first | exact trivial | assumption | omega | exact rOk | exact rCl | exact rNo) only [go_sem, seval, hnx, eN, e]
            try exact fun j hj => Le.of_eq (lR_snoc hwl hj)
      · obtain ⟨g1, g2, g3, g4⟩ := GroP.next hml (by omega) hP (by rw [hN]; omega)
        clear hP hgz
        have hlt := hml.getD k
        have hmk := bits_andM (c + (limbs m).getD k 0 * 10) g2
        have e0' : (c : Int) + ((limbs m).getD k 0 : Nat) * 10 = ((c + (limbs m).getD k 0 * 10 : Nat) : Int) := by omega
        have e2 : ((c + (limbs m).getD k 0 * 10 : Nat) : Int) / 4294967296 = (((c + (limbs m).getD k 0 * 10) / 4294967296 : Nat) : Int) := by omega
        have e3 : IntKind.u32.wrap (((c + (limbs m).getD k 0 * 10) % 4294967296 : Nat) : Int) = (((c + (limbs m).getD k 0 * 10) % 4294967296 : Nat) : Int) := wrap_u32 (by omega)
        simp (maxSteps := 3000000) (disch := first | exact trivial | assumption | omega | exact rOk | exact rCl | exact rNo) only [go_sem, seval, lR, g1, e0', hmk, e2, e3]
        refine ⟨_, g4, by show nb m - (k + 1) < nb m - k; omega, ?_, ?_⟩
        · simp (maxSteps := 3000000) (disch := first | exact trivial | assumption | omega | exact rOk | exact rCl | exact rNo) only [go_sem, seval]
          try exact LeV_int (by omega)
        · simp (maxSteps := 3000000) (disch := first | exact trivial | assumption | omega | exact rOk | exact rCl | exact rNo) only [go_sem, seval]
          try exact fun j hj => Le.of_eq (lR_set' (w := w) (by omega))
    · have hno : okNat s = false := by
        rw [hok]
        refine Bool.eq_false_iff.2 fun h => hc (List.all_eq_true.1 h _ hcm)
      have hc' : (s.getD i 0).toNat < 48 ∨ 57 < (s.getD i 0).toNat := by
        simp only [isDig, decide_eq_true_eq] at hc; omega
      rw [rnD_no hno]
      generalize hx : (s.getD i 0).toNat = x at *
      by_cases hx2 : x < 48
      · simp (maxSteps := 3000000) (disch := first | exact trivial | assumption | omega | exact rOk | exact rCl | exact rNo) only [go_sem, seval, hx]
      · simp (maxSteps := 3000000) (disch := first | exact trivial | assumption | omega | exact rOk | exact rCl | exact rNo) only [go_sem, seval, hx]
end Go.Proofs.YtmcinfbckdiaoaaGreatDoor.Lv

set_option linter.unusedVariables false
set_option linter.unusedSimpArgs false
set_option maxRecDepth 100000
set_option maxHeartbeats 4000000
namespace Go.Proofs.YtmcinfbckdiaoaaGreatDoor.Lv
open Go Go.RowKit
theorem ref_pos (n : Nat) : C E 104 [nD n] (iD (n : Int)) := by
  refine CG_intro Tryz.func104 rfl (by kernel_rfl) rfl (by kernel_rfl) (by kernel_rfl) rfl ?_
  have e : iD (n : Int) = .agg [.bool false, nD n] := by rw [iD, Int.natAbs_natCast, decide_eq_false (by omega)]
  rw [e]
  simp (maxSteps := 3000000) (disch := first | exact trivial | assumption | omega | exact rOk | exact rCl | exact rNo) only [go_sem, seval]
/-- A quotient of the document's. -/
def rqD (q : Rat) : D := .agg [.bool (decide (q.num < 0)), nD q.num.natAbs, nD q.den]
section
variable (q : Rat) (h : Hp) (ρ : Nat → Option Nat) (r : Nat → Nat)
theorem cl_rq : cl (rqD q) = true := Eq.trans rfl rfl
theorem flat_rq : flat (rqD q) = false := Eq.trans rfl rfl
theorem imp_rq : imp ρ h (rqD q) = rqD q := Eq.trans rfl rfl
theorem refs_rq : refs ρ (rqD q) = [] := Eq.trans rfl rfl
theorem asAgg_rq : asAgg (rqD q) = some [.bool (decide (q.num < 0)), nD q.num.natAbs, nD q.den] := Eq.trans rfl rfl
theorem one_rq : one h (rqD q) = false := Eq.trans rfl rfl
theorem ex_rq : exD r (rqD q) = rqD q := Eq.trans rfl rfl
end
attribute [go_sem] cl_rq flat_rq imp_rq refs_rq asAgg_rq one_rq ex_rq
theorem ref_Den {q : Rat} (hq : qs q) : C E 105 [rqD q] (nD q.den) := by
  refine CG_intro Tryz.func105 rfl (by kernel_rfl) rfl (by kernel_rfl) (by kernel_rfl) rfl ?_
  have h1 := nb_pos.2 q.den_pos
  have h2 := hq.2
  have hlen : (limbs q.den).length = nb q.den := rfl
  simp (maxSteps := 3000000) (disch := first | exact trivial | assumption | omega | exact rOk | exact rCl | exact rNo) only [go_sem, seval, nD, u32s, hlen]
theorem ref_RatCmp {a b : Rat} (ha : qs a) (hb : qs b) : C E 64 [rqD a, rqD b] (.int .i64 (sgQ a b)) := by
  refine CG_intro Tryz.func64 rfl (by kernel_rfl) rfl (by kernel_rfl) (by kernel_rfl) rfl ?_
  have m1 := zb_mul a.num b.den
  have m2 := zb_mul b.num a.den
  have hz1 : zb (b.den : Int) = nb b.den := rfl
  have hz2 : zb (a.den : Int) = nb a.den := rfl
  have a1 := ha.1
  have a2 := ha.2
  have b1 := hb.1
  have b2 := hb.2
  have hc := ref_CmpInt (a := a.num * b.den) (b := b.num * a.den) (by omega) (by omega)
  rw [sgQ_cross] at hc
  simp (maxSteps := 3000000) (disch := first | exact trivial | assumption | omega | exact rOk | exact rCl | exact rNo) only [go_sem, seval]
  refine callCl (ref_Den hb) ?_ rfl ?_
  · simp (maxSteps := 3000000) (disch := first | exact trivial | assumption | omega | exact rOk | exact rCl | exact rNo) only [go_sem, seval]
  simp (maxSteps := 3000000) (disch := first | exact trivial | assumption | omega | exact rOk | exact rCl | exact rNo) only [go_sem, seval]
  refine callCl (ref_pos b.den) ?_ rfl ?_
  · simp (maxSteps := 3000000) (disch := first | exact trivial | assumption | omega | exact rOk | exact rCl | exact rNo) only [go_sem, seval]
  simp (maxSteps := 3000000) (disch := first | exact trivial | assumption | omega | exact rOk | exact rCl | exact rNo) only [go_sem, seval]
  refine callCl (ref_MulInt (a := a.num) (b := (b.den : Int)) (by omega) (by omega)) ?_ rfl ?_
  · simp (maxSteps := 3000000) (disch := first | exact trivial | assumption | omega | exact rOk | exact rCl | exact rNo) only [go_sem, seval]
    try exact LesV.refl _
  simp (maxSteps := 3000000) (disch := first | exact trivial | assumption | omega | exact rOk | exact rCl | exact rNo) only [go_sem, seval]
  refine callCl (ref_Den ha) ?_ rfl ?_
  · simp (maxSteps := 3000000) (disch := first | exact trivial | assumption | omega | exact rOk | exact rCl | exact rNo) only [go_sem, seval]
  simp (maxSteps := 3000000) (disch := first | exact trivial | assumption | omega | exact rOk | exact rCl | exact rNo) only [go_sem, seval]
  refine callCl (ref_pos a.den) ?_ rfl ?_
  · simp (maxSteps := 3000000) (disch := first | exact trivial | assumption | omega | exact rOk | exact rCl | exact rNo) only [go_sem, seval]
  simp (maxSteps := 3000000) (disch := first | exact trivial | assumption | omega | exact rOk | exact rCl | exact rNo) only [go_sem, seval]
  refine callCl (ref_MulInt (a := b.num) (b := (a.den : Int)) (by omega) (by omega)) ?_ rfl ?_
  · simp (maxSteps := 3000000) (disch := first | exact trivial | assumption | omega | exact rOk | exact rCl | exact rNo) only [go_sem, seval]
    try exact LesV.refl _
  simp (maxSteps := 3000000) (disch := first | exact trivial | assumption | omega | exact rOk | exact rCl | exact rNo) only [go_sem, seval]
  refine callCl hc ?_ rfl ?_
  · simp (maxSteps := 3000000) (disch := first | exact trivial | assumption | omega | exact rOk | exact rCl | exact rNo) only [go_sem, seval]
  simp (maxSteps := 3000000) (disch := first | exact trivial | assumption | omega | exact rOk | exact rCl | exact rNo) only [go_sem, seval]
theorem ref_Dyadic {q : Rat} (hq : qs q) (hd : nb q.den < 60000000) : C E 65 [rqD q] (.bool (decide (dyq q))) := by
  refine CG_intro Tryz.func65 rfl (by kernel_rfl) rfl (by kernel_rfl) (by kernel_rfl) rfl ?_
  have h2 := hq.2
  have ht := tz_le q.den
  have hb := nbit_nb q.den
  have hp := nbit_pos q.den_pos
  have he : ((tz q.den : Int) == (nbit q.den : Int) - 1) = decide (dyq q) := by
    unfold dyq
    by_cases h : tz q.den + 1 = nbit q.den
    · rw [decide_eq_true h, beq_iff_eq]; omega
    · rw [decide_eq_false h, beq_eq_false_iff_ne]; omega
  simp (maxSteps := 3000000) (disch := first | exact trivial | assumption | omega | exact rOk | exact rCl | exact rNo) only [go_sem, seval]
  refine callCl (ref_Den hq) ?_ rfl ?_
  · simp (maxSteps := 3000000) (disch := first | exact trivial | assumption | omega | exact rOk | exact rCl | exact rNo) only [go_sem, seval]
  simp (maxSteps := 3000000) (disch := first | exact trivial | assumption | omega | exact rOk | exact rCl | exact rNo) only [go_sem, seval]
  refine callCl (ref_Zeros hd) ?_ rfl ?_
  · simp (maxSteps := 3000000) (disch := first | exact trivial | assumption | omega | exact rOk | exact rCl | exact rNo) only [go_sem, seval]
  simp (maxSteps := 3000000) (disch := first | exact trivial | assumption | omega | exact rOk | exact rCl | exact rNo) only [go_sem, seval]
  refine callCl (ref_Den hq) ?_ rfl ?_
  · simp (maxSteps := 3000000) (disch := first | exact trivial | assumption | omega | exact rOk | exact rCl | exact rNo) only [go_sem, seval]
  simp (maxSteps := 3000000) (disch := first | exact trivial | assumption | omega | exact rOk | exact rCl | exact rNo) only [go_sem, seval]
  refine callCl (ref_Bits (n := q.den) (by omega)) ?_ rfl ?_
  · simp (maxSteps := 3000000) (disch := first | exact trivial | assumption | omega | exact rOk | exact rCl | exact rNo) only [go_sem, seval]
  rw [← he]
  simp (maxSteps := 3000000) (disch := first | exact trivial | assumption | omega | exact rOk | exact rCl | exact rNo) only [go_sem, seval]
/-- A whole number's text. -/
def riD (s : List UInt8) : D := .tup [iD ((zpO s).getD 0), .bool (zpO s).isSome]
theorem riD_no {s : List UInt8} (h : zpO s = none) : riD s = .tup [iD 0, .bool false] := by rw [riD, h]; rfl
theorem riD_yes {s : List UInt8} {z : Int} (h : zpO s = some z) : riD s = .tup [iD z, .bool true] := by rw [riD, h]; rfl
theorem LeV_i0' : LeV (.agg [.bool false, .nils]) (iD 0) := LeV.agg (LesV.cons (LeV.refl _) (LesV.cons nD_zero LesV.nil))
theorem LeV_i0 (b : Bool) : LeV (.tup [.agg [.bool false, .nils], .bool b]) (.tup [iD 0, .bool b]) := LeV.tup (LesV.cons LeV_i0' (LesV.refl _))
theorem iD_nat (n : Nat) : iD (n : Int) = .agg [.bool false, nD n] := by rw [iD, Int.natAbs_natCast, decide_eq_false (by omega)]
theorem iD_neg {n : Nat} (h : n ≠ 0) : iD (-(n : Int)) = .agg [.bool true, nD n] := by rw [iD, Int.natAbs_neg, Int.natAbs_natCast, decide_eq_true (by omega)]
theorem ref_IntParse (s : List UInt8) (hs : s.length < 9223372036854775808) : C E 122 [.str s] (riD s) := by
  refine CG_intro Tryz.func122 rfl (by kernel_rfl) rfl (by kernel_rfl) (by kernel_rfl) rfl ?_
  have t2 : ((s.length : Nat) : Int).toNat = s.length := by omega
  have tail : ∀ {Q : Prop}, (okNat s = true → Q) → (okNat s = false → Q) → Q := fun {Q} a b => by
    cases h : okNat s
    · exact b h
    · exact a h
  by_cases h0 : s = []
  · subst h0
    have e : ([] : List UInt8).length = 0 := rfl
    have hz : zpO [] = none := rfl
    have hn := ref_NatParse [] (by simp)
    rw [rnD_no rfl] at hn
    rw [riD_no hz]
    simp (maxSteps := 3000000) (disch := first | exact trivial | assumption | omega | exact rOk | exact rCl | exact rNo) only [go_sem, seval, e]
    refine callC hn ?_ rfl ?_
    · simp (maxSteps := 3000000) (disch := first | exact trivial | assumption | omega | exact rOk | exact rCl | exact rNo) only [go_sem, seval]
    simp (maxSteps := 3000000) (disch := first | exact trivial | assumption | omega | exact rOk | exact rCl | exact rNo) only [go_sem, seval]
    exact LeV_i0 _
  have hpos : 0 < s.length := List.length_pos_iff.2 h0
  have hc0 := (s.getD 0 0).toNat_lt
  by_cases h1 : (s.getD 0 0).toNat = 45
  · have hn := ref_NatParse (s.drop 1) (by rw [List.length_drop]; omega)
    by_cases hok : okNat (s.drop 1) = true
    · obtain ⟨hl, hd⟩ := okNat_len hok
      have hnb := dval_nb _ hd
      rw [rnD_yes hok] at hn
      have hlen : (limbs (dval (s.drop 1))).length = nb (dval (s.drop 1)) := rfl
      have hp := nb_pos (n := dval (s.drop 1))
      by_cases hz : dval (s.drop 1) = 0
      · have ez : zpO s = none := by unfold zpO; rw [if_pos ⟨h0, h1⟩, if_neg (fun h => h.2 hz)]
        rw [riD_no ez]
        have hl0 : (limbs 0).length = 0 := by rw [limbs_zero]; rfl
        rw [hz] at hn
        simp (maxSteps := 3000000) (disch := first | exact trivial | assumption | omega | exact rOk | exact rCl | exact rNo) only [go_sem, seval, h1, t2, List.take_length]
        refine callC hn ?_ rfl ?_
        · simp (maxSteps := 3000000) (disch := first | exact trivial | assumption | omega | exact rOk | exact rCl | exact rNo) only [go_sem, seval]
        simp (maxSteps := 3000000) (disch := first | exact trivial | assumption | omega | exact rOk | exact rCl | exact rNo) only [go_sem, seval, nD, u32s, hl0]
        exact LeV_i0 _
      · have ez : zpO s = some (-(dval (s.drop 1) : Int)) := by unfold zpO; rw [if_pos ⟨h0, h1⟩, if_pos ⟨hok, hz⟩]
        rw [riD_yes ez, iD_neg hz]
        have hp1 := hp.2 (by omega)
        generalize dval (s.drop 1) = d at *
        simp (maxSteps := 3000000) (disch := first | exact trivial | assumption | omega | exact rOk | exact rCl | exact rNo) only [go_sem, seval, h1, t2, List.take_length]
        refine callC hn ?_ rfl ?_
        · simp (maxSteps := 3000000) (disch := first | exact trivial | assumption | omega | exact rOk | exact rCl | exact rNo) only [go_sem, seval]
        simp (maxSteps := 3000000) (disch := first | exact trivial | assumption | omega | exact rOk | exact rCl | exact rNo) only [go_sem, seval, nD, u32s, hlen]
    · have hok' : okNat (s.drop 1) = false := by simpa using hok
      have ez : zpO s = none := by unfold zpO; rw [if_pos ⟨h0, h1⟩, if_neg (fun h => hok h.1)]
      rw [riD_no ez]
      rw [rnD_no hok'] at hn
      simp (maxSteps := 3000000) (disch := first | exact trivial | assumption | omega | exact rOk | exact rCl | exact rNo) only [go_sem, seval, h1, t2, List.take_length]
      refine callC hn ?_ rfl ?_
      · simp (maxSteps := 3000000) (disch := first | exact trivial | assumption | omega | exact rOk | exact rCl | exact rNo) only [go_sem, seval]
      simp (maxSteps := 3000000) (disch := first | exact trivial | assumption | omega | exact rOk | exact rCl | exact rNo) only [go_sem, seval]
      exact LeV_i0 _
  · have hn := ref_NatParse s hs
    have hne : (((s.getD 0 0).toNat : Int) == 45) = false := beq_eq_false_iff_ne.2 (by omega)
    by_cases hok : okNat s = true
    · have ez : zpO s = some (dval s : Int) := by unfold zpO; rw [if_neg (fun h => h1 h.2), if_pos hok]
      rw [riD_yes ez, iD_nat]
      rw [rnD_yes hok] at hn
      generalize dval s = d at *
      simp (maxSteps := 3000000) (disch := first | exact trivial | assumption | omega | exact rOk | exact rCl | exact rNo) only [go_sem, seval, hne]
      refine callC hn ?_ rfl ?_
      · simp (maxSteps := 3000000) (disch := first | exact trivial | assumption | omega | exact rOk | exact rCl | exact rNo) only [go_sem, seval]
      simp (maxSteps := 3000000) (disch := first | exact trivial | assumption | omega | exact rOk | exact rCl | exact rNo) only [go_sem, seval]
    · have hok' : okNat s = false := by simpa using hok
      have ez : zpO s = none := by unfold zpO; rw [if_neg (fun h => h1 h.2), if_neg hok]
      rw [riD_no ez]
      rw [rnD_no hok'] at hn
      simp (maxSteps := 3000000) (disch := first | exact trivial | assumption | omega | exact rOk | exact rCl | exact rNo) only [go_sem, seval, hne]
      refine callC hn ?_ rfl ?_
      · simp (maxSteps := 3000000) (disch := first | exact trivial | assumption | omega | exact rOk | exact rCl | exact rNo) only [go_sem, seval]
      simp (maxSteps := 3000000) (disch := first | exact trivial | assumption | omega | exact rOk | exact rCl | exact rNo) only [go_sem, seval]
      exact LeV_i0 _
end Go.Proofs.YtmcinfbckdiaoaaGreatDoor.Lv

set_option linter.unusedVariables false
set_option linter.unusedSimpArgs false
set_option maxRecDepth 100000
set_option maxHeartbeats 4000000
namespace Go.Proofs.YtmcinfbckdiaoaaGreatDoor.Lv
open Go Go.RowKit
theorem ib_none : ∀ (s : List UInt8) (c : UInt8), (∀ j, j < s.length → s.getD j 0 ≠ c) → Lib.indexByte s c = -1
  | [], c, _ => rfl
  | b :: l, c, h => by
    have h0 := h 0 (by simp)
    rw [List.getD_cons_zero] at h0
    have ih := ib_none l c fun j hj => by
      have := h (j + 1) (by simp; omega)
      rwa [List.getD_cons_succ] at this
    have e : (b == c) = false := beq_eq_false_iff_ne.2 h0
    simp [Lib.indexByte, e, ih]
theorem ib_some : ∀ (s : List UInt8) (c : UInt8) (i : Nat), i < s.length → s.getD i 0 = c → (∀ j, j < i → s.getD j 0 ≠ c) → Lib.indexByte s c = i
  | [], c, i, hi, _, _ => by simp at hi
  | b :: l, c, 0, hi, h, _ => by
    rw [List.getD_cons_zero] at h
    simp [Lib.indexByte, h]
  | b :: l, c, i + 1, hi, h, hn => by
    have h0 := hn 0 (by omega)
    rw [List.getD_cons_zero] at h0
    rw [List.getD_cons_succ] at h
    have ih := ib_some l c i (by simpa using hi) h fun j hj => by
      have := hn (j + 1) (by omega)
      rwa [List.getD_cons_succ] at this
    have e : (b == c) = false := beq_eq_false_iff_ne.2 h0
    have e2 : ¬ ((i : Int) = -1) := by omega
    simp [Lib.indexByte, e, ih, e2]
/-- A quotient's text, of the document's. -/
def rrD (s : List UInt8) : D := match rpO s with
  | some q => .tup [rqD q, .bool true]
  | none => .tup [.agg [.bool false, nD 0, nD (if 0 ≤ Lib.indexByte s 47 then 0 else 1)], .bool false]
theorem rrD_yes {s : List UInt8} {q : Rat} (h : rpO s = some q) : rrD s = .tup [rqD q, .bool true] := by unfold rrD; rw [h]
theorem rrD_no {s : List UInt8} (h : rpO s = none) : rrD s = .tup [.agg [.bool false, nD 0, nD (if 0 ≤ Lib.indexByte s 47 then 0 else 1)], .bool false] := by unfold rrD; rw [h]
theorem rqD_int (n : Int) : rqD (n : Rat) = .agg [.bool (decide (n < 0)), nD n.natAbs, nD 1] := by rw [rqD, Rat.num_intCast, Rat.den_intCast]
theorem LeV_r0 : LeV (.tup [.agg [.bool false, .nils, .nils], .bool false]) (.tup [.agg [.bool false, nD 0, nD 0], .bool false]) :=
  LeV.tup (LesV.cons (LeV.agg (LesV.cons (LeV.refl _) (LesV.cons nD_zero (LesV.cons nD_zero LesV.nil)))) (LesV.refl _))
/-- Looking for the stroke. -/
def SkP (s : List UInt8) (x : Nat × Int) : Prop := x.1 ≤ s.length ∧ ((x.2 = -1 ∧ ∀ j, j < x.1 → s.getD j 0 ≠ 47) ∨ (0 ≤ x.2 ∧ x.2 = Lib.indexByte s 47))
theorem ref_RatParse (s : List UInt8) (hs : s.length < 9223372036854775808) : C E 78 [.str s] (rrD s) := by
  refine CG_intro Tryz.func78 rfl (by kernel_rfl) rfl (by kernel_rfl) (by kernel_rfl) rfl ?_
  simp (maxSteps := 3000000) (disch := first | exact trivial | assumption | omega | exact rOk | exact rCl | exact rNo) only [go_sem, seval]
  refine AL.of (SkP s) (fun x => s.length - x.1) (fun x => [(0, .str s), (2, .ad 0 0), (4, .int .i64 x.2), (5, .int .i64 x.1)]) (fun _ => [(0, .var true 3 (.agg [.bool false, .nils, .nils]))]) (0, -1) ⟨Nat.zero_le _, .inl ⟨rfl, fun j hj => by omega⟩⟩ ?_ ?_ ?_ ?_
  · simp (maxSteps := 3000000) (disch := first | exact trivial | assumption | omega | exact rOk | exact rCl | exact rNo) only [go_sem, seval]
  · simp (maxSteps := 3000000) (disch := first | exact trivial | assumption | omega | exact rOk | exact rCl | exact rNo) only [go_sem, seval]
  · intro x _; simp (maxSteps := 3000000) (disch := first | exact trivial | assumption | omega | exact rOk | exact rCl | exact rNo) only [go_sem, seval]
  rintro ⟨i, at'⟩ ⟨hi, hat⟩
  simp only at hi hat
  obtain ⟨b1, b2⟩ := ib_lt s 47
  have hlow : at' < (s.length : Int) := by rcases hat with ⟨h, _⟩ | ⟨_, h⟩ <;> omega
  by_cases ha : at' < 0
  · obtain ⟨hm, hno⟩ : at' = -1 ∧ ∀ j, j < i → s.getD j 0 ≠ 47 := by
      rcases hat with h | ⟨h, _⟩
      · exact h
      · omega
    subst hm
    by_cases hil : i = s.length
    · subst hil
      have hib := ib_none s 47 hno
      have hrp : rpO s = (zpO s).map fun n : Int => (n : Rat) := by unfold rpO; rw [if_neg (by omega)]
      have hw := ref_IntParse s hs
      have hO := ref_NatOf (v := 1) (by omega)
      simp (maxSteps := 3000000) (disch := first | exact trivial | assumption | omega | exact rOk | exact rCl | exact rNo) only [go_sem, seval]
      cases hz : zpO s with
      | none =>
        rw [hz] at hrp
        rw [rrD_no hrp, if_neg (by omega)]
        rw [riD_no hz] at hw
        refine callC hw ?_ rfl ?_
        · simp (maxSteps := 3000000) (disch := first | exact trivial | assumption | omega | exact rOk | exact rCl | exact rNo) only [go_sem, seval]
        simp (maxSteps := 3000000) (disch := first | exact trivial | assumption | omega | exact rOk | exact rCl | exact rNo) only [go_sem, seval]
        refine callCl hO ?_ rfl ?_
        · simp (maxSteps := 3000000) (disch := first | exact trivial | assumption | omega | exact rOk | exact rCl | exact rNo) only [go_sem, seval]
          try exact LesV.refl _
        simp (maxSteps := 3000000) (disch := first | exact trivial | assumption | omega | exact rOk | exact rCl | exact rNo) only [go_sem, seval]
        try exact LeV.refl _
      | some n =>
        rw [hz] at hrp
        rw [rrD_yes hrp, rqD_int]
        rw [riD_yes hz] at hw
        refine callC hw ?_ rfl ?_
        · simp (maxSteps := 3000000) (disch := first | exact trivial | assumption | omega | exact rOk | exact rCl | exact rNo) only [go_sem, seval]
        simp (maxSteps := 3000000) (disch := first | exact trivial | assumption | omega | exact rOk | exact rCl | exact rNo) only [go_sem, seval]
        refine callCl hO ?_ rfl ?_
        · simp (maxSteps := 3000000) (disch := first | exact trivial | assumption | omega | exact rOk | exact rCl | exact rNo) only [go_sem, seval]
          try exact LesV.refl _
        simp (maxSteps := 3000000) (disch := first | exact trivial | assumption | omega | exact rOk | exact rCl | exact rNo) only [go_sem, seval]
    · have hi' : i < s.length := by omega
      have ei : ((i : Nat) : Int).toNat = i := by omega
      have hcl := (s.getD i 0).toNat_lt
      by_cases hc : (s.getD i 0).toNat = 47
      · have hib := ib_some s 47 i hi' (by rw [← UInt8.toNat_inj]; exact hc) hno
        simp (maxSteps := 3000000) (disch := first | exact trivial | assumption | omega | exact rOk | exact rCl | exact rNo) only [go_sem, seval, ei, hc]
        refine ⟨(i + 1, (i : Int)), ⟨hi', .inr ⟨by show (0 : Int) ≤ i; omega, hib.symm⟩⟩, by show s.length - (i + 1) < s.length - i; omega, ?_, ?_⟩
        · simp (maxSteps := 3000000) (disch := first | exact trivial | assumption | omega | exact rOk | exact rCl | exact rNo) only [go_sem, seval]
          try exact LeV_int (by omega)
        · simp (maxSteps := 3000000) (disch := first | exact trivial | assumption | omega | exact rOk | exact rCl | exact rNo) only [go_sem, seval]
      · simp (maxSteps := 3000000) (disch := first | exact trivial | assumption | omega | exact rOk | exact rCl | exact rNo) only [go_sem, seval, ei]
        refine ⟨(i + 1, -1), ⟨hi', .inl ⟨rfl, fun j hj => ?_⟩⟩, by show s.length - (i + 1) < s.length - i; omega, ?_, ?_⟩
        · have hj : j < i + 1 := hj
          rcases (show j < i ∨ j = i by omega) with h | h
          · exact hno j h
          · subst h; intro e; rw [e] at hc; exact hc rfl
        · simp (maxSteps := 3000000) (disch := first | exact trivial | assumption | omega | exact rOk | exact rCl | exact rNo) only [go_sem, seval]
          try exact LeV_int (by omega)
        · simp (maxSteps := 3000000) (disch := first | exact trivial | assumption | omega | exact rOk | exact rCl | exact rNo) only [go_sem, seval]
  · obtain ⟨h0, hib⟩ : 0 ≤ at' ∧ at' = Lib.indexByte s 47 := by
      rcases hat with ⟨h, _⟩ | h
      · omega
      · exact h
    clear hat hlow
    have hrp : rpO s = match zpO (s.take (Lib.indexByte s 47).toNat) with
      | none => none
      | some n => if okNat (s.drop ((Lib.indexByte s 47).toNat + 1)) = true ∧ 2 ≤ dval (s.drop ((Lib.indexByte s 47).toNat + 1)) ∧ Nat.gcd (dval (s.drop ((Lib.indexByte s 47).toNat + 1))) n.natAbs = 1 then some (mkRat n (dval (s.drop ((Lib.indexByte s 47).toNat + 1)))) else none := by
      conv => lhs; unfold rpO
      rw [if_pos (by omega)]
      rfl
    have hno : (if 0 ≤ Lib.indexByte s 47 then 0 else 1) = 0 := if_pos (by omega)
    have hrn := fun h => @rrD_no s h
    rw [hno] at hrn
    rw [← hib] at hrp b1
    clear hib hno b2
    obtain ⟨k, rfl⟩ := Int.eq_ofNat_of_zero_le h0
    have ek : ((k : Nat) : Int).toNat = k := by omega
    have ek1 : ((k : Int) + 1).toNat = k + 1 := by omega
    have t2 : ((s.length : Nat) : Int).toNat = s.length := by omega
    rw [ek] at hrp
    have hw := ref_IntParse (s.take k) (by rw [List.length_take]; omega)
    have hn := ref_NatParse (s.drop (k + 1)) (by rw [List.length_drop]; omega)
    have hO := ref_NatOf (v := 1) (by omega)
    rcases (show i < s.length ∨ i = s.length by omega) with hil | hil
    all_goals
      simp (maxSteps := 3000000) (disch := first | exact trivial | assumption | omega | exact rOk | exact rCl | exact rNo) only [go_sem, seval, ek, ek1, t2, List.take_length, List.drop_zero]
      generalize s.take k = a at *
      generalize ht : s.drop (k + 1) = t at *
      cases hz : zpO a with
      | none =>
        rw [hz] at hrp
        rw [hrn hrp]
        rw [riD_no hz] at hw
        refine callC hw ?_ rfl ?_
        · simp (maxSteps := 3000000) (disch := first | exact trivial | assumption | omega | exact rOk | exact rCl | exact rNo) only [go_sem, seval]
        simp (maxSteps := 3000000) (disch := first | exact trivial | assumption | omega | exact rOk | exact rCl | exact rNo) only [go_sem, seval, ek, ek1, t2, List.take_length, ht]
        by_cases hok : okNat t = true
        · rw [rnD_yes hok] at hn
          generalize dval t = d at *
          refine callC hn ?_ rfl ?_
          · simp (maxSteps := 3000000) (disch := first | exact trivial | assumption | omega | exact rOk | exact rCl | exact rNo) only [go_sem, seval]
          simp (maxSteps := 3000000) (disch := first | exact trivial | assumption | omega | exact rOk | exact rCl | exact rNo) only [go_sem, seval]
          exact LeV_r0
        · rw [rnD_no (by simpa using hok)] at hn
          refine callC hn ?_ rfl ?_
          · simp (maxSteps := 3000000) (disch := first | exact trivial | assumption | omega | exact rOk | exact rCl | exact rNo) only [go_sem, seval]
          simp (maxSteps := 3000000) (disch := first | exact trivial | assumption | omega | exact rOk | exact rCl | exact rNo) only [go_sem, seval]
          exact LeV_r0
      | some n =>
        rw [hz] at hrp
        simp only at hrp
        have hzn := zpO_nb hz
        rw [riD_yes hz] at hw
        refine callC hw ?_ rfl ?_
        · simp (maxSteps := 3000000) (disch := first | exact trivial | assumption | omega | exact rOk | exact rCl | exact rNo) only [go_sem, seval]
        simp (maxSteps := 3000000) (disch := first | exact trivial | assumption | omega | exact rOk | exact rCl | exact rNo) only [go_sem, seval, ek, ek1, t2, List.take_length, ht]
        by_cases hok : okNat t = true
        · obtain ⟨hl, hdg⟩ := okNat_len hok
          have hnb := dval_nb _ hdg
          rw [rnD_yes hok] at hn
          generalize dval t = d at *
          have h1nb : nb 1 ≤ 1 := nb_lt.2 (by omega)
          have hcm : decide (sgI (d : Int) 1 ≤ 0) = decide (d ≤ 1) := sgI_le d 1
          refine callC hn ?_ rfl ?_
          · simp (maxSteps := 3000000) (disch := first | exact trivial | assumption | omega | exact rOk | exact rCl | exact rNo) only [go_sem, seval]
          simp (maxSteps := 3000000) (disch := first | exact trivial | assumption | omega | exact rOk | exact rCl | exact rNo) only [go_sem, seval]
          refine callC hO ?_ rfl ?_
          · simp (maxSteps := 3000000) (disch := first | exact trivial | assumption | omega | exact rOk | exact rCl | exact rNo) only [go_sem, seval]
            try exact LesV.refl _
          simp (maxSteps := 3000000) (disch := first | exact trivial | assumption | omega | exact rOk | exact rCl | exact rNo) only [go_sem, seval]
          refine callC (ref_CmpNat (a := d) (b := 1) (by omega) (by omega)) ?_ rfl ?_
          · simp (maxSteps := 3000000) (disch := first | exact trivial | assumption | omega | exact rOk | exact rCl | exact rNo) only [go_sem, seval]
          by_cases hd2 : d ≤ 1
          · rw [if_neg (fun h => by omega)] at hrp
            rw [hrn hrp]
            rw [decide_eq_true hd2] at hcm
            simp (maxSteps := 3000000) (disch := first | exact trivial | assumption | omega | exact rOk | exact rCl | exact rNo) only [go_sem, seval, hcm]
            exact LeV_r0
          · have hzn' : nb n.natAbs ≤ 4000 := hzn
            have hgle : d.gcd n.natAbs ≤ d := Nat.le_of_dvd (by omega) (Nat.gcd_dvd_left _ _)
            have hgnb := nb_mono hgle
            rw [decide_eq_false hd2] at hcm
            have hG := ref_Gcd (a := d) (b := n.natAbs) (by omega) (by omega)
            simp (maxSteps := 3000000) (disch := first | exact trivial | assumption | omega | exact rOk | exact rCl | exact rNo) only [go_sem, seval, hcm]
            refine callC hG ?_ rfl ?_
            · simp (maxSteps := 3000000) (disch := first | exact trivial | assumption | omega | exact rOk | exact rCl | exact rNo) only [go_sem, seval]
            simp (maxSteps := 3000000) (disch := first | exact trivial | assumption | omega | exact rOk | exact rCl | exact rNo) only [go_sem, seval]
            refine callC hO ?_ rfl ?_
            · simp (maxSteps := 3000000) (disch := first | exact trivial | assumption | omega | exact rOk | exact rCl | exact rNo) only [go_sem, seval]
              try exact LesV.refl _
            simp (maxSteps := 3000000) (disch := first | exact trivial | assumption | omega | exact rOk | exact rCl | exact rNo) only [go_sem, seval]
            refine callC (ref_CmpNat (a := d.gcd n.natAbs) (b := 1) (by omega) (by omega)) ?_ rfl ?_
            · simp (maxSteps := 3000000) (disch := first | exact trivial | assumption | omega | exact rOk | exact rCl | exact rNo) only [go_sem, seval]
            by_cases hg : d.gcd n.natAbs = 1
            · rw [if_pos ⟨hok, by omega, hg⟩] at hrp
              rw [rrD_yes hrp]
              have hs1 : sgI ((d.gcd n.natAbs : Nat) : Int) 1 = 0 := by rw [hg]; rfl
              obtain ⟨m0, m1, m2⟩ := mk_parts n d (by omega)
              have mk2 := mk_num (n := n) (d := d) (by omega)
              rw [hg, Nat.div_one] at mk2 m2
              rw [mkZ_self] at mk2
              have hrq : rqD (mkRat n d) = .agg [.bool (decide (n < 0)), nD n.natAbs, nD d] := by rw [rqD, ← mk2, m2]
              rw [hrq]
              simp (maxSteps := 3000000) (disch := first | exact trivial | assumption | omega | exact rOk | exact rCl | exact rNo) only [go_sem, seval, hs1]
            · rw [if_neg (fun h => hg h.2.2)] at hrp
              rw [hrn hrp]
              have hs1 : (sgI ((d.gcd n.natAbs : Nat) : Int) 1 == 0) = false := by
                rcases (show d.gcd n.natAbs < 1 ∨ 1 < d.gcd n.natAbs by omega) with h | h
                · rw [sgI_lt (by omega)]; rfl
                · rw [sgI_gt (by omega)]; rfl
              have hs2 : (sgI ((d.gcd n.natAbs : Nat) : Int) 1 != 0) = true := by rw [bne, hs1]; rfl
              simp (maxSteps := 3000000) (disch := first | exact trivial | assumption | omega | exact rOk | exact rCl | exact rNo) only [go_sem, seval, hs1, hs2]
              exact LeV_r0
        · rw [if_neg (fun h => hok h.1)] at hrp
          rw [hrn hrp]
          rw [rnD_no (by simpa using hok)] at hn
          refine callC hn ?_ rfl ?_
          · simp (maxSteps := 3000000) (disch := first | exact trivial | assumption | omega | exact rOk | exact rCl | exact rNo) only [go_sem, seval]
          simp (maxSteps := 3000000) (disch := first | exact trivial | assumption | omega | exact rOk | exact rCl | exact rNo) only [go_sem, seval]
          exact LeV_r0
end Go.Proofs.YtmcinfbckdiaoaaGreatDoor.Lv

set_option linter.unusedVariables false
set_option linter.unusedSimpArgs false
set_option maxRecDepth 100000
set_option maxHeartbeats 4000000
namespace Go.Proofs.YtmcinfbckdiaoaaGreatDoor.Lv
open Go Go.RowKit
/-- An interval of the document's. -/
def rsD (p : Rat × Rat) : D := .agg [.bool (decide (p.1.num < 0)), nD p.1.num.natAbs, nD p.1.den, .bool (decide (p.2.num < 0)), nD p.2.num.natAbs, nD p.2.den]
def rs0 : D := .agg [.bool false, nD 0, nD 0, .bool false, nD 0, nD 0]
section
variable (p : Rat × Rat) (h : Hp) (ρ : Nat → Option Nat) (r : D → Option D)
theorem cl_rs : cl (rsD p) = true := Eq.trans rfl rfl
theorem flat_rs : flat (rsD p) = false := Eq.trans rfl rfl
theorem imp_rs : imp ρ h (rsD p) = rsD p := Eq.trans rfl rfl
theorem refs_rs : refs ρ (rsD p) = [] := Eq.trans rfl rfl
theorem asAgg_rs : asAgg (rsD p) = some [.bool (decide (p.1.num < 0)), nD p.1.num.natAbs, nD p.1.den, .bool (decide (p.2.num < 0)), nD p.2.num.natAbs, nD p.2.den] := Eq.trans rfl rfl
theorem one_rs : one h (rsD p) = false := Eq.trans rfl rfl
end
attribute [go_sem] cl_rs flat_rs imp_rs refs_rs asAgg_rs one_rs
section
variable (h : Hp) (ρ : Nat → Option Nat)
theorem cl_rs0 : cl rs0 = true := Eq.trans rfl rfl
theorem flat_rs0 : flat rs0 = false := Eq.trans rfl rfl
theorem imp_rs0 : imp ρ h rs0 = rs0 := Eq.trans rfl rfl
theorem refs_rs0 : refs ρ rs0 = [] := Eq.trans rfl rfl
theorem asAgg_rs0 : asAgg rs0 = some [.bool false, nD 0, nD 0, .bool false, nD 0, nD 0] := Eq.trans rfl rfl
theorem one_rs0 : one h rs0 = false := Eq.trans rfl rfl
end
attribute [go_sem] cl_rs0 flat_rs0 imp_rs0 refs_rs0 asAgg_rs0 one_rs0
theorem LeV_rs0 : LeV (.agg [.bool false, .nils, .nils, .bool false, .nils, .nils]) rs0 :=
  LeV.agg (LesV.cons (LeV.refl _) (LesV.cons nD_zero (LesV.cons nD_zero (LesV.cons (LeV.refl _) (LesV.cons nD_zero (LesV.cons nD_zero LesV.nil))))))
/-- An interval's texts, of the document's. -/
def rspD (r : (Rat × Rat) × Int) : D := .tup [if r.2 = 0 then rsD r.1 else rs0, .int .i64 r.2]
theorem ref_SpanParse (lo hi : List UInt8) (h1 : lo.length < 9223372036854775808) (h2 : hi.length < 9223372036854775808) : C E 63 [.agg [.str lo, .str hi]] (rspD (spR lo hi)) := by
  refine CG_intro Tryz.func63 rfl (by kernel_rfl) rfl (by kernel_rfl) (by kernel_rfl) rfl ?_
  have p1 := ref_RatParse lo h1
  have p2 := ref_RatParse hi h2
  have r2 : rspD ((0, 0), 2) = .tup [rs0, .int .i64 2] := rfl
  have r1 : rspD ((0, 0), 1) = .tup [rs0, .int .i64 1] := rfl
  cases ha : rpO lo with
  | none =>
    have e : spR lo hi = ((0, 0), 2) := by unfold spR; rw [ha]
    rw [e, r2]
    rw [rrD_no ha] at p1
    generalize (if 0 ≤ Lib.indexByte lo 47 then 0 else 1) = k1 at p1
    simp (maxSteps := 3000000) (disch := first | exact trivial | assumption | omega | exact rOk | exact rCl | exact rNo) only [go_sem, seval]
    refine callC p1 ?_ rfl ?_
    · simp (maxSteps := 3000000) (disch := first | exact trivial | assumption | omega | exact rOk | exact rCl | exact rNo) only [go_sem, seval]
    simp (maxSteps := 3000000) (disch := first | exact trivial | assumption | omega | exact rOk | exact rCl | exact rNo) only [go_sem, seval]
    cases hb : rpO hi with
    | none =>
      rw [rrD_no hb] at p2
      generalize (if 0 ≤ Lib.indexByte hi 47 then 0 else 1) = k2 at p2
      refine callC p2 ?_ rfl ?_
      · simp (maxSteps := 3000000) (disch := first | exact trivial | assumption | omega | exact rOk | exact rCl | exact rNo) only [go_sem, seval]
      simp (maxSteps := 3000000) (disch := first | exact trivial | assumption | omega | exact rOk | exact rCl | exact rNo) only [go_sem, seval]
      exact LeV.tup (LesV.cons LeV_rs0 (LesV.refl _))
    | some b =>
      rw [rrD_yes hb] at p2
      refine callC p2 ?_ rfl ?_
      · simp (maxSteps := 3000000) (disch := first | exact trivial | assumption | omega | exact rOk | exact rCl | exact rNo) only [go_sem, seval]
      simp (maxSteps := 3000000) (disch := first | exact trivial | assumption | omega | exact rOk | exact rCl | exact rNo) only [go_sem, seval]
      exact LeV.tup (LesV.cons LeV_rs0 (LesV.refl _))
  | some a =>
    rw [rrD_yes ha] at p1
    cases hb : rpO hi with
    | none =>
      have e : spR lo hi = ((0, 0), 2) := by unfold spR; rw [ha, hb]
      rw [e, r2]
      rw [rrD_no hb] at p2
      generalize (if 0 ≤ Lib.indexByte hi 47 then 0 else 1) = k2 at p2
      simp (maxSteps := 3000000) (disch := first | exact trivial | assumption | omega | exact rOk | exact rCl | exact rNo) only [go_sem, seval]
      refine callC p1 ?_ rfl ?_
      · simp (maxSteps := 3000000) (disch := first | exact trivial | assumption | omega | exact rOk | exact rCl | exact rNo) only [go_sem, seval]
      simp (maxSteps := 3000000) (disch := first | exact trivial | assumption | omega | exact rOk | exact rCl | exact rNo) only [go_sem, seval]
      refine callC p2 ?_ rfl ?_
      · simp (maxSteps := 3000000) (disch := first | exact trivial | assumption | omega | exact rOk | exact rCl | exact rNo) only [go_sem, seval]
      simp (maxSteps := 3000000) (disch := first | exact trivial | assumption | omega | exact rOk | exact rCl | exact rNo) only [go_sem, seval]
      exact LeV.tup (LesV.cons LeV_rs0 (LesV.refl _))
    | some b =>
      rw [rrD_yes hb] at p2
      have hC := ref_RatCmp ((rpO_qb ha).qs (by omega)) ((rpO_qb hb).qs (by omega))
      have hg := sgQ_gt a b
      have e : spR lo hi = if b < a then ((0, 0), 1) else ((a, b), 0) := by unfold spR; rw [ha, hb]
      rw [e]
      simp (maxSteps := 3000000) (disch := first | exact trivial | assumption | omega | exact rOk | exact rCl | exact rNo) only [go_sem, seval]
      refine callC p1 ?_ rfl ?_
      · simp (maxSteps := 3000000) (disch := first | exact trivial | assumption | omega | exact rOk | exact rCl | exact rNo) only [go_sem, seval]
      simp (maxSteps := 3000000) (disch := first | exact trivial | assumption | omega | exact rOk | exact rCl | exact rNo) only [go_sem, seval]
      refine callC p2 ?_ rfl ?_
      · simp (maxSteps := 3000000) (disch := first | exact trivial | assumption | omega | exact rOk | exact rCl | exact rNo) only [go_sem, seval]
      simp (maxSteps := 3000000) (disch := first | exact trivial | assumption | omega | exact rOk | exact rCl | exact rNo) only [go_sem, seval]
      refine callC hC ?_ rfl ?_
      · simp (maxSteps := 3000000) (disch := first | exact trivial | assumption | omega | exact rOk | exact rCl | exact rNo) only [go_sem, seval]
        try exact LesV.refl _
      by_cases h : b < a
      · rw [decide_eq_true h] at hg
        rw [if_pos h, r1]
        simp (maxSteps := 3000000) (disch := first | exact trivial | assumption | omega | exact rOk | exact rCl | exact rNo) only [go_sem, seval, hg]
        exact LeV.tup (LesV.cons LeV_rs0 (LesV.refl _))
      · rw [decide_eq_false h] at hg
        have r0 : rspD ((a, b), 0) = .tup [rsD (a, b), .int .i64 0] := rfl
        rw [if_neg h, r0]
        simp (maxSteps := 3000000) (disch := first | exact trivial | assumption | omega | exact rOk | exact rCl | exact rNo) only [go_sem, seval, hg]
        try exact LeV.refl _
/-- A row of them. -/
def rsR (l : List (Rat × Rat)) : Nat → D := fun i => rsD (l.getD i (0, 0))
def rbD (l : List (Rat × Rat)) : D := .ro true 6 l.length (rsR l)
section
variable (l : List (Rat × Rat)) (h : Hp) (ρ : Nat → Option Nat)
theorem cl_rb : cl (rbD l) = true := Eq.trans rfl rfl
theorem flat_rb : flat (rbD l) = false := Eq.trans rfl rfl
theorem imp_rb : imp ρ h (rbD l) = rbD l := Eq.trans rfl rfl
theorem refs_rb : refs ρ (rbD l) = [] := Eq.trans rfl rfl
theorem one_rb : one h (rbD l) = true := Eq.trans rfl rfl
end
attribute [go_sem] cl_rb flat_rb imp_rb refs_rb one_rb
def rboxD (r : List (Rat × Rat) × Int) : D := .tup [if r.2 = 0 then rbD r.1 else .nils, .int .i64 r.2]
theorem rR_snoc {w : List (Rat × Rat)} {d : Rat × Rat} {j n : Nat} (hn : w.length = n) (hj : j < n + 1) : (if j < n then rsR w j else [rsD d].getD (j - n) .unk) = rsR (w ++ [d]) j := by
  unfold rsR
  by_cases h : j < n
  · rw [if_pos h, List.getD_eq_getElem?_getD, List.getD_eq_getElem?_getD, List.getElem?_append_left (by omega)]
  · rw [if_neg h, List.getD_eq_getElem?_getD (l := w ++ [d]), List.getElem?_append_right (by omega), hn, show j - n = 0 by omega]
    rfl
theorem ref_BoxParse {l : List (Txt × Txt)} (hl : l.length < 1073741824) (ht : ∀ p ∈ l, p.1.length < 9223372036854775808 ∧ p.2.length < 9223372036854775808) : C E 21 [txD l] (rboxD (boxR l)) := by
  refine CG_intro Tryz.func21 rfl (by kernel_rfl) rfl (by kernel_rfl) (by kernel_rfl) rfl ?_
  by_cases hlen : l.length < 1 ∨ 3 < l.length
  · have e : boxR l = ([], 1) := by unfold boxR; rw [if_pos hlen]
    rw [e]
    by_cases h1 : l.length < 1
    · simp (maxSteps := 3000000) (disch := first | exact trivial | assumption | omega | exact rOk | exact rCl | exact rNo) only [go_sem, seval, txD]
      exact LeV.refl _
    · simp (maxSteps := 3000000) (disch := first | exact trivial | assumption | omega | exact rOk | exact rCl | exact rNo) only [go_sem, seval, txD]
      exact LeV.refl _
  have e : boxR l = sidesR l := by unfold boxR; rw [if_neg hlen]
  rw [e]
  simp (maxSteps := 3000000) (disch := first | exact trivial | assumption | omega | exact rOk | exact rCl | exact rNo) only [go_sem, seval, txD]
  refine AL.ofN 4 true 6 (fun _ => .unk) (BpP l) (fun s => l.length - s.1) (fun s => [(0, txD l), (4, .sl 0 s.1 0 s.1), (5, .int .i64 s.1)]) (fun s => [(0, .row false s.1 true 6 s.1 (rsR s.2))]) (0, []) (by simp (maxSteps := 3000000) (disch := first | exact trivial | assumption | omega | exact rOk | exact rCl | exact rNo) only [go_sem, seval]) ⟨Nat.zero_le _, rfl, fun p hp => by simp at hp⟩ ?_ ?_ ?_ ?_
  · simp (maxSteps := 3000000) (disch := first | exact trivial | assumption | omega | exact rOk | exact rCl | exact rNo) only [go_sem, seval, txD]
    try exact LeV.refl _
  · simp (maxSteps := 3000000) (disch := first | exact trivial | assumption | omega | exact rOk | exact rCl | exact rNo) only [go_sem, seval, txD]
    try exact fun j hj => absurd hj (by omega)
  · intro x _; simp (maxSteps := 3000000) (disch := first | exact trivial | assumption | omega | exact rOk | exact rCl | exact rNo) only [go_sem, seval]
  rintro ⟨i, w⟩ hP
  have hf := hP
  obtain ⟨hi, hw, hz⟩ := hP
  simp only at hi hw hz
  have hwl : w.length = i := by rw [hw, List.length_map, List.length_take]; omega
  by_cases hil : i = l.length
  · subst hil
    rw [hf.fin]
    clear hf hw hz
    simp (maxSteps := 3000000) (disch := first | exact trivial | assumption | omega | exact rOk | exact rCl | exact rNo) only [go_sem, seval, txD]
    refine LeV.tup (LesV.cons ?_ (LesV.refl _))
    exact LeV.ro hwl.symm fun j hj => Le.refl _
  · have hil' : i < l.length := by omega
    have hmem : l.getD i ([], []) ∈ l := by
      rw [List.getD_eq_getElem?_getD, List.getElem?_eq_getElem hil']; exact List.getElem_mem hil'
    obtain ⟨t1, t2⟩ := ht _ hmem
    have hp : txR l i = .agg [.str (l.getD i ([], [])).1, .str (l.getD i ([], [])).2] := rfl
    have hbad := hf.bad hil'
    have hnext := hf.next hil'
    generalize l.getD i ([], []) = p at *
    have hS := ref_SpanParse p.1 p.2 t1 t2
    obtain ⟨q1, q2, q3⟩ := spR_qb p.1 p.2
    have hsd : sideR p.1 p.2 = sideR p.1 p.2 := rfl
    conv at hsd => rhs; unfold sideR
    generalize sideR p.1 p.2 = r at *
    generalize spR p.1 p.2 = s at *
    obtain ⟨⟨a, b⟩, c⟩ := s
    simp only at q1 q2 q3 hS hsd
    have s1 := q1.qs (by omega)
    have s2 := q2.qs (by omega)
    have hge := sgQ_ge a b
    have d1 := ref_Dyadic s1 (by have := q1.2; omega)
    have d2 := ref_Dyadic s2 (by have := q2.2; omega)
    clear hw hz hf ht
    simp (maxSteps := 3000000) (disch := first | exact trivial | assumption | omega | exact rOk | exact rCl | exact rNo) only [go_sem, seval, txD, hp]
    by_cases hc : c = 0
    · subst hc
      have r0 : rspD ((a, b), 0) = .tup [rsD (a, b), .int .i64 0] := rfl
      rw [r0] at hS
      rw [if_neg (by simp)] at hsd
      refine callC hS ?_ rfl ?_
      · simp (maxSteps := 3000000) (disch := first | exact trivial | assumption | omega | exact rOk | exact rCl | exact rNo) only [go_sem, seval]
      simp (maxSteps := 3000000) (disch := first | exact trivial | assumption | omega | exact rOk | exact rCl | exact rNo) only [go_sem, seval, txD]
      refine callC (ref_RatCmp s1 s2) ?_ rfl ?_
      · simp (maxSteps := 3000000) (disch := first | exact trivial | assumption | omega | exact rOk | exact rCl | exact rNo) only [go_sem, seval]
        try exact LesV.refl _
      by_cases hle : b ≤ a
      · rw [if_pos hle] at hsd
        subst hsd
        rw [hbad (by decide)]
        rw [decide_eq_true hle] at hge
        simp (maxSteps := 3000000) (disch := first | exact trivial | assumption | omega | exact rOk | exact rCl | exact rNo) only [go_sem, seval, txD, hge]
        try exact LeV.refl _
      · rw [if_neg hle] at hsd
        rw [decide_eq_false hle] at hge
        simp (maxSteps := 3000000) (disch := first | exact trivial | assumption | omega | exact rOk | exact rCl | exact rNo) only [go_sem, seval, txD, hge]
        refine callC d1 ?_ rfl ?_
        · simp (maxSteps := 3000000) (disch := first | exact trivial | assumption | omega | exact rOk | exact rCl | exact rNo) only [go_sem, seval]
          try exact LesV.refl _
        by_cases hd1 : dyq a
        · rw [decide_eq_true hd1]
          simp (maxSteps := 3000000) (disch := first | exact trivial | assumption | omega | exact rOk | exact rCl | exact rNo) only [go_sem, seval, txD]
          refine callC d2 ?_ rfl ?_
          · simp (maxSteps := 3000000) (disch := first | exact trivial | assumption | omega | exact rOk | exact rCl | exact rNo) only [go_sem, seval]
            try exact LesV.refl _
          by_cases hd2 : dyq b
          · rw [decide_eq_true hd2]
            rw [if_pos ⟨hd1, hd2⟩] at hsd
            subst hsd
            have hnx := hnext rfl
            clear hnext hbad
            simp (maxSteps := 3000000) (disch := first | exact trivial | assumption | omega | exact rOk | exact rCl | exact rNo) only [go_sem, seval, txD]
            refine ⟨.inl trivial, .inr trivial, by omega, by omega, ?_⟩
            refine ⟨_, hnx, by show l.length - (i + 1) < l.length - i; omega, ?_, ?_⟩
            · simp (maxSteps := 3000000) (disch := first | exact trivial | assumption | omega | exact rOk | exact rCl | exact rNo) only [go_sem, seval, txD]
              try exact LeV_int (by omega)
            · simp (maxSteps := 3000000) (disch := first | exact trivial | assumption | omega | exact rOk | exact rCl | exact rNo) only [go_sem, seval]
              exact fun j hj => Le.of_eq (rR_snoc hwl hj)
          · rw [decide_eq_false hd2]
            rw [if_neg (fun h => hd2 h.2)] at hsd
            subst hsd
            rw [hbad (by decide)]
            simp (maxSteps := 3000000) (disch := first | exact trivial | assumption | omega | exact rOk | exact rCl | exact rNo) only [go_sem, seval, txD]
            try exact LeV.refl _
        · rw [decide_eq_false hd1]
          rw [if_neg (fun h => hd1 h.1)] at hsd
          subst hsd
          rw [hbad (by decide)]
          simp (maxSteps := 3000000) (disch := first | exact trivial | assumption | omega | exact rOk | exact rCl | exact rNo) only [go_sem, seval, txD]
          try exact LeV.refl _
    · have r0 : rspD ((a, b), c) = .tup [rs0, .int .i64 c] := by unfold rspD; rw [if_neg hc]
      rw [r0] at hS
      rw [if_pos hc] at hsd
      subst hsd
      rw [hbad hc]
      have hne : (c == 0) = false := beq_eq_false_iff_ne.2 hc
      have hne2 : (c != 0) = true := by rw [bne, hne]; rfl
      have hne3 : rboxD ([], c) = .tup [.nils, .int .i64 c] := by unfold rboxD; rw [if_neg hc]
      rw [hne3]
      refine callC hS ?_ rfl ?_
      · simp (maxSteps := 3000000) (disch := first | exact trivial | assumption | omega | exact rOk | exact rCl | exact rNo) only [go_sem, seval]
      simp (maxSteps := 3000000) (disch := first | exact trivial | assumption | omega | exact rOk | exact rCl | exact rNo) only [go_sem, seval, txD, hne, hne2]
      try exact LeV.refl _
end Go.Proofs.YtmcinfbckdiaoaaGreatDoor.Lv
