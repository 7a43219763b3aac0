/- The program's numbers: Parse. The program's whole numbers: Mul, Add, Of. The document's numbers: MulNat; whole numbers. The document's numbers: NatParse. The program's quotients: den, Den, scaled, Cmp, Of, Num, Sign. -/
import Derived.Test.YtakaojkfipnfcaaGreatDoorG11
import Derived.Test.YtakaojkfipnfcaaGreatDoorG14
import Derived.Test.YtakaojkfipnfcaaGreatDoorG12
import Derived.Test.YtakaojkfipnfcaaGreatDoorG13
set_option linter.unusedVariables false
set_option linter.unusedSimpArgs false
set_option maxRecDepth 100000
set_option maxHeartbeats 4000000
namespace Go.Proofs.YtakaojkfipnfcaaGreatDoor.Lv
open Go Go.RowKit
def okNat (s : List UInt8) : Bool:=!(s == []) && decide (s.length ≤ 4000) && !((s.getD 0 0).toNat == 48 && decide (1 < s.length)) && s.all isDig
theorem dval_take (s : List UInt8) (i : Nat) (h : i < s.length) : dval (s.take (i + 1)) = dval (s.take i) * 10 + ((s.getD i 0).toNat - 48):=by
  rw [List.take_add_one,List.getD_eq_getElem?_getD,List.getElem?_eq_getElem h]
  exact dval_snoc _ _
theorem dval_nb (s : List UInt8) (h : ∀ c ∈ s,isDig c = true) : nb (dval s) ≤ s.length:=by
  refine nb_lt.2 (Nat.lt_of_lt_of_le (dval_lt s h) (Nat.pow_le_pow_left (by omega) _))
def npD (s : List UInt8) : D:=.tup [natD (if okNat s = true then dval s else 0), .int .i64 (if okNat s = true then 0 else 2)]
theorem npD_no {s : List UInt8} (h : okNat s = false) : npD s = .tup [natD 0, .int .i64 2]:=by rw [npD,h];rfl
theorem npD_yes {s : List UInt8} (h : okNat s = true) : npD s = .tup [natD (dval s), .int .i64 0]:=by rw [npD,h];rfl
theorem LeV_nil0 : LeV (.tup [.agg [.nils], .int .i64 2]) (.tup [natD 0, .int .i64 2]):=by
  refine LeV.tup (LesV.cons (LeV.agg (LesV.cons ?_ LesV.nil)) (LesV.refl _))
  rw [u32s,limbs_zero]
  exact LeV.nils
theorem nat_Parse (s : List UInt8) : C E 134 [.str s] (npD s):=by
  refine CG_intro Tryz.func134 rfl (by kernel_rfl) rfl (by kernel_rfl) (by kernel_rfl) rfl ?_
  by_cases h0 : s = []
  · subst h0
    have e : (([] : List UInt8) == []) = true:=rfl
    rw [npD_no rfl]
    simp (disch:=first|exact dd|fail) only [go_sem,seval,e]
    exact LeV_nil0
  have e0 : (s == []) = false:=beq_eq_false_iff_ne.2 h0
  have hpos : 0 < s.length:=List.length_pos_iff.2 h0
  by_cases h1 : 4000 < s.length
  · rw [npD_no (by simp only [okNat];rw [decide_eq_false (show ¬ s.length ≤ 4000 by omega)];simp)]
    simp (disch:=first|exact dd|fail) only [go_sem,seval,e0]
    exact LeV_nil0
  have hc0:=(s.getD 0 0).toNat_lt
  by_cases h2 : (s.getD 0 0).toNat = 48 ∧ 1 < s.length
  · obtain ⟨h2,h3⟩:=h2
    rw [npD_no (by simp only [okNat,h2];rw [decide_eq_true h3];simp)]
    simp (disch:=first|exact dd|fail) only [go_sem,seval,e0,h2]
    exact LeV_nil0
  have hok : okNat s = s.all isDig:=by
    have : ((s.getD 0 0).toNat == 48 && decide (1 < s.length)) = false:=by
      rw [Bool.and_eq_false_iff]
      by_cases h : (s.getD 0 0).toNat = 48
      · exact .inr (decide_eq_false fun h' => h2 ⟨h,h'⟩)
      · exact .inl (beq_eq_false_iff_ne.2 h)
    simp only [okNat,this,e0]
    rw [decide_eq_true (show s.length ≤ 4000 by omega)]
    rfl
  have inv : ∀ {Q : Prop},((s.getD 0 0).toNat = 48 → s.length = 1 → Q) → ((s.getD 0 0).toNat ≠ 48 → Q) → Q:=fun {Q} q1 q2 => by
    by_cases h : (s.getD 0 0).toNat = 48
    · exact q1 h (by omega)
    · exact q2 h
  have loop : True:=trivial
  refine inv (fun k1 k2 => ?_) (fun k1 => ?_)
  all_goals
    simp (disch:=first|exact dd|fail) only [go_sem,seval,e0,k1,Nat.reduceEqDiff]
    refine AL.ofN 4 false 1 (lR []) (fun i : Nat => i ≤ s.length ∧ ∀ c ∈ s.take i,isDig c = true) (fun i => s.length - i)
      (fun i => [(0, .str s),(2, .ad 0 0),(4, .sl 1 (nb (dval (s.take i))) 0 (nb (dval (s.take i)))),(25, .int .i64 s.length),(26, .int .i64 i)])
      (fun i => [(1, .row false (nb (dval (s.take i))) false 1 (nb (dval (s.take i))) (lR (limbs (dval (s.take i))))),(0, .var true 1 (.agg [.nils]))]) 0 (by simp (disch:=first|exact dd|fail) only [go_sem,seval]) ⟨by omega,fun c h => by cases h⟩ ?_ ?_ ?_ ?_
    · have z : nb (dval []) = 0:=by rw [show dval [] = 0 from rfl,nb,limbs_zero];rfl
      simp (disch:=first|exact dd|fail) only [go_sem,seval,z]
    · have z : nb (dval []) = 0:=by rw [show dval [] = 0 from rfl,nb,limbs_zero];rfl
      simp (disch:=first|exact dd|fail) only [go_sem,seval,z]
      try exact fun i hi => absurd hi (by omega)
    · intro x _;simp (disch:=first|exact dd|fail) only [go_sem,seval]
    rintro i ⟨hi,hd⟩
    by_cases hil : i = s.length
    · subst hil
      rw [List.take_length] at hd
      rw [npD_yes (by rw [hok,List.all_eq_true];exact hd)]
      simp (disch:=first|exact dd|fail) only [go_sem,seval,List.take_length]
      rw [natD_u32s,u32s_lR]
      exact LeV.refl _
    have hi' : i < s.length:=by omega
    have hcm : s.getD i 0 ∈ s:=by rw [List.getD_eq_getElem?_getD,List.getElem?_eq_getElem hi'];exact List.getElem_mem hi'
    have hcl:=(s.getD i 0).toNat_lt
    by_cases hc : isDig (s.getD i 0) = true
    · have hc' : 48 ≤ (s.getD i 0).toNat ∧ (s.getD i 0).toNat ≤ 57:=by simpa only [isDig,decide_eq_true_eq] using hc
      have hv:=dval_take s i hi'
      have hnb:=dval_nb (s.take i) hd
      rw [List.length_take] at hnb
      have hd1 : ∀ c ∈ s.take (i + 1),isDig c = true:=fun c hcc => by
        rw [List.take_add_one,List.getElem?_eq_getElem hi'] at hcc
        rcases List.mem_append.1 hcc with h | h
        · exact hd c h
        · have e : c = s[i]:=by simpa using h
          rw [List.getD_eq_getElem?_getD,List.getElem?_eq_getElem hi'] at hc
          rw [e];exact hc
      generalize hx : (s.getD i 0).toNat = x at *
      have ex : ((x : Int) - 48) = ((x - 48 : Nat) : Int):=by omega
      simp (disch:=first|exact dd|fail) only [go_sem,seval,hx,ex]
      refine callG [1] (nat_grow (m:=dval (s.take i)) (q:=10) (r:=x - 48) (by omega) (by omega) (by omega) (by omega)) rfl (by simp (disch:=first|exact dd|fail) only [go_sem,seval]) ?_ ?_ ?_
      · simp (disch:=first|exact dd|fail) only [go_sem,seval]
        try exact LesV.refl _
      · simp (disch:=first|exact dd|fail) only [go_sem,seval]
      rw [← hv]
      simp (disch:=first|exact dd|fail) only [go_sem,seval]
      refine ⟨i + 1,⟨by omega,hd1⟩,by show s.length - (i + 1) < s.length - i;omega, ?_, ?_⟩
      · simp (disch:=first|exact dd|fail) only [go_sem,seval]
        try exact LeV.of_eq (by rw [Int.natCast_succ])
      · simp (disch:=first|exact dd|fail) only [go_sem,seval]
        try exact fun _ _ => trivial
    · have hno : okNat s = false:=by
        rw [hok]
        refine Bool.eq_false_iff.2 fun h => hc (List.all_eq_true.1 h _ hcm)
      have hc' : (s.getD i 0).toNat < 48 ∨ 57 < (s.getD i 0).toNat:=by
        simp only [isDig,decide_eq_true_eq] at hc;omega
      rw [npD_no hno]
      generalize hx : (s.getD i 0).toNat = x at *
      by_cases hx2 : x < 48
      · simp (disch:=first|exact dd|fail) only [go_sem,seval,hx]
        exact LeV_nil0
      · simp (disch:=first|exact dd|fail) only [go_sem,seval,hx]
        exact LeV_nil0
theorem nb_mul (a b : Nat) : nb (a * b) ≤ nb a + nb b:=by
  have h1:=nb_lt.1 (Nat.le_refl (nb a))
  have h2:=nb_lt.1 (Nat.le_refl (nb b))
  refine nb_lt.2 ?_
  rw [Nat.pow_add]
  exact Nat.mul_lt_mul'' h1 h2
def zb (z : Int) : Nat:=nb z.natAbs
theorem zb_mul (a b : Int) : zb (a * b) ≤ zb a + zb b:=by unfold zb;rw [Int.natAbs_mul];exact nb_mul _ _
theorem zb_neg (a : Int) : zb (-a) = zb a:=by unfold zb;rw [Int.natAbs_neg]
theorem mkZ_mul (a b : Int) : mkZ (!(decide (a < 0) == decide (b < 0))) (a.natAbs * b.natAbs) = a * b:=by
  have ha : a = (if a < 0 then -(a.natAbs : Int) else a.natAbs):=by split <;> omega
  have hb : b = (if b < 0 then -(b.natAbs : Int) else b.natAbs):=by split <;> omega
  generalize hm : a.natAbs = m at *
  generalize hn : b.natAbs = n at *
  unfold mkZ
  rw [Int.natCast_mul]
  by_cases h1 : a < 0 <;> by_cases h2 : b < 0 <;> simp only [h1,h2,if_true,if_false] at ha hb <;> simp [h1,h2] <;> rw [ha,hb] <;> simp [Int.neg_mul,Int.mul_neg]
theorem whole_Mul {a b : Int} (ha : zb a < 500000000) (hb : zb b < 500000000) : C E 190 [zD a,zD b] (zD (a * b)):=by
  refine CG_intro Tryz.func190 rfl (by kernel_rfl) rfl (by kernel_rfl) (by kernel_rfl) rfl ?_
  have hm:=nb_mul a.natAbs b.natAbs
  unfold zb at ha hb
  have hf:=whole_From (!(decide (a < 0) == decide (b < 0))) (n:=a.natAbs * b.natAbs) (by omega)
  rw [mkZ_mul] at hf
  simp (disch:=first|exact dd|fail) only [go_sem,seval]
  refine callCl (nat_Mul (a:=a.natAbs) (b:=b.natAbs) (by omega) (by omega)) ?_ rfl ?_
  · simp (disch:=first|exact dd|fail) only [go_sem,seval,natD_u32s]
    try exact LesV.refl _
  simp (disch:=first|exact dd|fail) only [go_sem,seval]
  refine callCl hf ?_ rfl ?_
  · simp (disch:=first|exact dd|fail) only [go_sem,seval,natD_u32s]
    try exact LesV.refl _
  simp (disch:=first|exact dd|fail) only [go_sem,seval]
  try exact LeV.refl _
theorem whole_Of {v : Int} (h1 : -9223372036854775808 ≤ v) (h2 : v < 9223372036854775808) : C E 139 [.int .i64 v] (zD v):=by
  refine CG_intro Tryz.func139 rfl (by kernel_rfl) rfl (by kernel_rfl) (by kernel_rfl) rfl ?_
  have hb : nb v.natAbs ≤ 2:=nb_lt.2 (by rw [show (4294967296 : Nat) ^ 2 = 18446744073709551616 from rfl];omega)
  have hf:=whole_From (decide (v < 0)) (n:=v.natAbs) (by omega)
  rw [mkZ_self] at hf
  by_cases h : v < 0
  · have e1 : IntKind.u64.wrap (0 - IntKind.u64.wrap v) = (v.natAbs : Int):=by rw [u64_wr,u64_wr];omega
    rw [decide_eq_true h] at hf
    simp (disch:=first|exact dd|fail) only [go_sem,seval,e1]
    refine cA (nat_Of (v:=v.natAbs) (by omega)) ?_
    simp (disch:=first|exact dd|fail) only [go_sem,seval]
    refine callC hf ?_ rfl ?_
    · simp (disch:=first|exact dd|fail) only [go_sem,seval,natD_u32s]
      try exact LesV.refl _
    simp (disch:=first|exact dd|fail) only [go_sem,seval]
    try exact LeV.refl _
  · have e1 : IntKind.u64.wrap v = (v.natAbs : Int):=by rw [u64_wr];omega
    rw [decide_eq_false h] at hf
    simp (disch:=first|exact dd|fail) only [go_sem,seval,e1]
    refine cA (nat_Of (v:=v.natAbs) (by omega)) ?_
    simp (disch:=first|exact dd|fail) only [go_sem,seval]
    refine callC hf ?_ rfl ?_
    · simp (disch:=first|exact dd|fail) only [go_sem,seval,natD_u32s]
      try exact LesV.refl _
    simp (disch:=first|exact dd|fail) only [go_sem,seval]
    try exact LeV.refl _
def iD (z : Int) : D:=.agg [.bool (decide (z < 0)),nD z.natAbs]
section
variable (z : Int) (h : Hp) (ρ : Nat → Option Nat) (r : Nat → Nat)
theorem flat_iD : flat (iD z) = false:=Eq.trans rfl rfl
theorem asAgg_iD : asAgg (iD z) = some [.bool (decide (z < 0)),nD z.natAbs]:=Eq.trans rfl rfl
end
attribute [go_sem] flat_iD asAgg_iD
theorem nb_pos {n : Nat} : 0 < nb n ↔ 0 < n:=by
  constructor
  · intro h
    rcases Nat.eq_zero_or_pos n with h0 | h0
    · subst h0;unfold nb at h;rw [limbs_zero] at h;simp at h
    · exact h0
  · intro h;exact limbs_ne (by omega)
theorem ref_Sign {z : Int} (hz : zb z < 1073741824) : C E 87 [iD z] (.int .i64 (sgI z 0)):=by
  refine CG_intro Tryz.func87 rfl (by kernel_rfl) rfl (by kernel_rfl) (by kernel_rfl) rfl ?_
  have hp:=nb_pos (n:=z.natAbs)
  have hlen : (limbs z.natAbs).length = nb z.natAbs:=rfl
  unfold zb at hz
  rcases (show z < 0 ∨ z = 0 ∨ 0 < z by omega) with h | h | h
  · have h1 : 0 < nb z.natAbs:=hp.2 (by omega)
    have e : decide (z < 0) = true:=decide_eq_true h
    rw [sgI_lt h]
    simp (disch:=first|exact dd|fail) only [go_sem,seval,nD,u32s,hlen,e]
  · subst h
    have h1 : nb (0 : Int).natAbs = 0:=by
      rcases Nat.eq_zero_or_pos (nb (0 : Int).natAbs) with h | h
      · exact h
      · have:=hp.1 h;simp at this
    have hl0 : (limbs 0).length = 0:=by rw [limbs_zero];rfl
    rw [sgI_eq]
    simp (disch:=first|exact dd|fail) only [go_sem,seval,nD,u32s,hlen,h1,hl0]
  · have h1 : 0 < nb z.natAbs:=hp.2 (by omega)
    have e : decide (z < 0) = false:=decide_eq_false (by omega)
    rw [sgI_gt h]
    simp (disch:=first|exact dd|fail) only [go_sem,seval,nD,u32s,hlen,e]
def rnD (s : List UInt8) : D:=.tup [if okNat s = true then nD (dval s) else .nils, .bool (okNat s)]
theorem rnD_no {s : List UInt8} (h : okNat s = false) : rnD s = .tup [.nils, .bool false]:=by rw [rnD,h];rfl
theorem rnD_yes {s : List UInt8} (h : okNat s = true) : rnD s = .tup [nD (dval s), .bool true]:=by rw [rnD,h];rfl
theorem ref_NatParse (s : List UInt8) (hs : s.length < 9223372036854775808) : C E 128 [.str s] (rnD s):=by
  refine CG_intro Tryz.func128 rfl (by kernel_rfl) rfl (by kernel_rfl) (by kernel_rfl) rfl ?_
  by_cases h0 : s = []
  · subst h0
    have e : ([] : List UInt8).length = 0:=rfl
    rw [rnD_no rfl]
    simp (disch:=first|exact dd|fail) only [go_sem,seval,e]
  have e0 : (s == []) = false:=beq_eq_false_iff_ne.2 h0
  have hpos : 0 < s.length:=List.length_pos_iff.2 h0
  by_cases h1 : 4000 < s.length
  · rw [rnD_no (by simp only [okNat];rw [decide_eq_false (show ¬ s.length ≤ 4000 by omega)];simp)]
    simp (disch:=first|exact dd|fail) only [go_sem,seval]
  have hc0:=(s.getD 0 0).toNat_lt
  by_cases h2 : (s.getD 0 0).toNat = 48 ∧ 1 < s.length
  · obtain ⟨h2,h3⟩:=h2
    rw [rnD_no (by simp only [okNat,h2];rw [decide_eq_true h3];simp)]
    simp (disch:=first|exact dd|fail) only [go_sem,seval,h2]
  have hok : okNat s = s.all isDig:=by
    have : ((s.getD 0 0).toNat == 48 && decide (1 < s.length)) = false:=by
      rw [Bool.and_eq_false_iff]
      by_cases h : (s.getD 0 0).toNat = 48
      · exact .inr (decide_eq_false fun h' => h2 ⟨h,h'⟩)
      · exact .inl (beq_eq_false_iff_ne.2 h)
    simp only [okNat,this,e0]
    rw [decide_eq_true (show s.length ≤ 4000 by omega)]
    rfl
  have inv : ∀ {Q : Prop},((s.getD 0 0).toNat = 48 → s.length = 1 → Q) → ((s.getD 0 0).toNat ≠ 48 → Q) → Q:=fun {Q} q1 q2 => by
    by_cases h : (s.getD 0 0).toNat = 48
    · exact q1 h (by omega)
    · exact q2 h
  refine inv (fun k1 k2 => ?_) (fun k1 => ?_)
  all_goals
    simp (disch:=first|exact dd|fail) only [go_sem,seval,k1,Nat.reduceEqDiff]
    refine AL.ofN 4 false 1 (lR []) (fun i : Nat => i ≤ s.length ∧ ∀ c ∈ s.take i,isDig c = true) (fun i => s.length - i)
      (fun i => [(0, .str s),(4, .sl 0 (nb (dval (s.take i))) 0 (nb (dval (s.take i)))),(5, .int .i64 i)])
      (fun i => [(0, .row false (nb (dval (s.take i))) false 1 (nb (dval (s.take i))) (lR (limbs (dval (s.take i)))))]) 0 (by simp (disch:=first|exact dd|fail) only [go_sem,seval]) ⟨by omega,fun c h => by cases h⟩ ?_ ?_ ?_ ?_
    · have z : nb (dval []) = 0:=by rw [show dval [] = 0 from rfl,nb,limbs_zero];rfl
      simp (disch:=first|exact dd|fail) only [go_sem,seval,z]
    · have z : nb (dval []) = 0:=by rw [show dval [] = 0 from rfl,nb,limbs_zero];rfl
      simp (disch:=first|exact dd|fail) only [go_sem,seval,z]
      try exact fun i hi => absurd hi (by omega)
    · intro x _;simp (disch:=first|exact dd|fail) only [go_sem,seval]
    rintro i ⟨hi,hd⟩
    have ei : ((i : Nat) : Int).toNat = i:=by omega
    by_cases hil : i = s.length
    · subst hil
      rw [List.take_length] at hd
      rw [rnD_yes (by rw [hok,List.all_eq_true];exact hd)]
      simp (disch:=first|exact dd|fail) only [go_sem,seval,List.take_length]
      rw [nD,u32s_lR]
      exact LeV.refl _
    have hi' : i < s.length:=by omega
    have hcm : s.getD i 0 ∈ s:=by rw [List.getD_eq_getElem?_getD,List.getElem?_eq_getElem hi'];exact List.getElem_mem hi'
    have hcl:=(s.getD i 0).toNat_lt
    by_cases hc : isDig (s.getD i 0) = true
    · have hc' : 48 ≤ (s.getD i 0).toNat ∧ (s.getD i 0).toNat ≤ 57:=by simpa only [isDig,decide_eq_true_eq] using hc
      have hv:=dval_take s i hi'
      have hnb:=dval_nb (s.take i) hd
      rw [List.length_take] at hnb
      have hd1 : ∀ c ∈ s.take (i + 1),isDig c = true:=fun c hcc => by
        rw [List.take_add_one,List.getElem?_eq_getElem hi'] at hcc
        rcases List.mem_append.1 hcc with h | h
        · exact hd c h
        · have e : c = s[i]:=by simpa using h
          rw [List.getD_eq_getElem?_getD,List.getElem?_eq_getElem hi'] at hc
          rw [e];exact hc
      generalize hx : (s.getD i 0).toNat = x at *
      have ex : ((x : Int) - 48) = ((x - 48 : Nat) : Int):=by omega
      obtain ⟨r,hr⟩ : ∃ r,r = x - 48:=⟨_,rfl⟩
      rw [← hr] at hv ex
      have hr9 : r ≤ 9:=by omega
      have hnx : dval (s.take (i + 1)) = dval (s.take i) * 10 + r:=hv
      have hml:=limbs_low (dval (s.take i))
      have hN : (limbs (dval (s.take i))).length = nb (dval (s.take i)):=rfl
      have hgz : GroP (limbs (dval (s.take i))) 10 r (0,r,limbs (dval (s.take i))):=⟨by simp,by simp only;omega,rfl,hml,rfl,by simp [val]⟩
      simp (disch:=first|exact dd|fail) only [go_sem,seval,hx,ex]
      generalize hm : dval (s.take i) = m at *
      refine AL.of (GroP (limbs m) 10 r) (fun z => nb m - z.1) (fun z => [(0, .str s),(4, .sl 0 (nb m) 0 (nb m)),(5, .int .i64 i),(6, .int .u64 z.2.1),(7, .int .i64 z.1)])
        (fun z => [(0, .row false (nb m) false 1 (nb m) (lR z.2.2))]) (0,r,limbs m) hgz ?_ ?_ ?_ ?_
      · simp (disch:=first|exact dd|fail) only [go_sem,seval,hm]
      · simp (disch:=first|exact dd|fail) only [go_sem,seval,hm]
        try exact fun _ _ => trivial
      · intro x _;simp (disch:=first|exact dd|fail) only [go_sem,seval]
      rintro ⟨k,c,w⟩ hP
      have hcc:=hP.2.1
      have hwl:=hP.2.2.1
      have hk0:=hP.1
      simp only at hcc hwl hk0
      rw [hN] at hwl hk0
      by_cases hk : k = nb m
      · subst hk
        obtain ⟨f1,f2⟩:=GroP.fin (m:=m) (q:=10) (by omega) hP
        clear hP hgz hml
        by_cases hc0 : c = 0
        · have e:=f1 hc0
          have eN : nb (m * 10 + r) = nb m:=by unfold nb;rw [e];exact hwl
          simp (disch:=first|exact dd|fail) only [go_sem,seval]
          refine ⟨i + 1,⟨by omega,hd1⟩,by show s.length - (i + 1) < s.length - i;omega, ?_, ?_⟩
          · simp (disch:=first|exact dd|fail) only [go_sem,seval,hnx,eN]
            try exact LeV_int (by omega)
          · simp (disch:=first|exact dd|fail) only [go_sem,seval,hnx,eN,e]
            try exact fun _ _ => trivial
        · have e:=f2 (by omega)
          have eN : nb (m * 10 + r) = nb m + 1:=by unfold nb;rw [e,List.length_append,List.length_singleton,hwl];rfl
          have ew : IntKind.u32.wrap (c : Int) = (c : Int):=wrap_u32 (by omega)
          simp (disch:=first|exact dd|fail) only [go_sem,seval,ew]
          refine ⟨.inl trivial, .inr trivial,by omega,by omega, ?_⟩
          refine ⟨i + 1,⟨by omega,hd1⟩,by show s.length - (i + 1) < s.length - i;omega, ?_, ?_⟩
          · simp (disch:=first|exact dd|fail) only [go_sem,seval,hnx,eN]
            try exact LeV_int (by omega)
          · simp (disch:=first|exact dd|fail) only [go_sem,seval,hnx,eN,e]
            try exact fun j hj => Le.of_eq (lR_snoc hwl hj)
      · obtain ⟨g1,g2,g3,g4⟩:=GroP.next hml (by omega) hP (by rw [hN];omega)
        clear hP hgz
        have hlt:=hml.getD k
        have hmk:=bits_andM (c + (limbs m).getD k 0 * 10) g2
        have e0' : (c : Int) + ((limbs m).getD k 0 : Nat) * 10 = ((c + (limbs m).getD k 0 * 10 : Nat) : Int):=by omega
        have e2 : ((c + (limbs m).getD k 0 * 10 : Nat) : Int) / 4294967296 = (((c + (limbs m).getD k 0 * 10) / 4294967296 : Nat) : Int):=by omega
        have e3 : IntKind.u32.wrap (((c + (limbs m).getD k 0 * 10) % 4294967296 : Nat) : Int) = (((c + (limbs m).getD k 0 * 10) % 4294967296 : Nat) : Int):=wrap_u32 (by omega)
        simp (disch:=first|exact dd|fail) only [go_sem,seval,lR,g1,e0',hmk,e2,e3]
        refine ⟨_,g4,by show nb m - (k + 1) < nb m - k;omega, ?_, ?_⟩
        · simp (disch:=first|exact dd|fail) only [go_sem,seval]
          try exact LeV_int (by omega)
        · simp (disch:=first|exact dd|fail) only [go_sem,seval]
          try exact fun j hj => Le.of_eq (lR_set' (w:=w) (by omega))
    · have hno : okNat s = false:=by
        rw [hok]
        refine Bool.eq_false_iff.2 fun h => hc (List.all_eq_true.1 h _ hcm)
      have hc' : (s.getD i 0).toNat < 48 ∨ 57 < (s.getD i 0).toNat:=by
        simp only [isDig,decide_eq_true_eq] at hc;omega
      rw [rnD_no hno]
      generalize hx : (s.getD i 0).toNat = x at *
      by_cases hx2 : x < 48
      · simp (disch:=first|exact dd|fail) only [go_sem,seval,hx]
      · simp (disch:=first|exact dd|fail) only [go_sem,seval,hx]
section
variable (q : Rat) (h : Hp) (ρ : Nat → Option Nat) (r : Nat → Nat)
theorem cl_qD : cl (qD q) = true:=Eq.trans rfl rfl
theorem flat_qD : flat (qD q) = false:=Eq.trans rfl rfl
theorem imp_qD : imp ρ h (qD q) = qD q:=Eq.trans rfl rfl
theorem asAgg_qD : asAgg (qD q) = some [u32s (limbs q.num.natAbs), .bool (decide (q.num < 0)),u32s (limbs (qden q))]:=Eq.trans rfl rfl
end
attribute [go_sem] cl_qD flat_qD imp_qD asAgg_qD
def qs (q : Rat) : Prop:=zb q.num < 100000000 ∧ nb q.den < 100000000
theorem nb_qden (q : Rat) : nb (qden q) ≤ nb q.den:=by
  unfold qden;split
  · exact nb_mono (Nat.zero_le _)
  · exact Nat.le_refl _
theorem nbit_zero {n : Nat} : nbit n = 0 ↔ n = 0:=by
  constructor
  · intro h;rcases Nat.eq_zero_or_pos n with h0 | h0
    · exact h0
    · have:=nbit_pos h0;omega
  · intro h;subst h;rfl
theorem qden_zero {q : Rat} : qden q = 0 ↔ q.den = 1:=by
  unfold qden
  have:=q.den_pos
  split <;> omega
theorem rat_den {q : Rat} (hq : qs q) : C E 145 [qD q] (natD q.den):=by
  refine CG_intro Tryz.func145 rfl (by kernel_rfl) rfl (by kernel_rfl) (by kernel_rfl) rfl ?_
  have hn:=nb_qden q
  have h2:=hq.2
  have hl:=nbit_nb (qden q)
  simp (disch:=first|exact dd|fail) only [go_sem,seval]
  refine callC (nat_Bits (n:=qden q) (by omega)) ?_ rfl ?_
  · simp (disch:=first|exact dd|fail) only [go_sem,seval,natD_u32s]
    try exact LesV.refl _
  by_cases h1 : q.den = 1
  · have h0:=nbit_zero.2 (qden_zero.2 h1)
    rw [h1]
    simp (disch:=first|exact dd|fail) only [go_sem,seval,h0]
    refine cA (nat_Of (v:=1) (by omega)) ?_
    simp (disch:=first|exact dd|fail) only [go_sem,seval]
  · have h0 : 0 < nbit (qden q):=nbit_pos (Nat.pos_of_ne_zero fun e => h1 (qden_zero.1 e))
    have e : qden q = q.den:=by unfold qden;rw [if_neg h1]
    simp (disch:=first|exact dd|fail) only [go_sem,seval,natD_u32s]
    rw [e]
    try exact LeV.refl _
theorem rat_Den {q : Rat} (hq : qs q) : C E 101 [qD q] (zD q.den):=by
  refine CG_intro Tryz.func101 rfl (by kernel_rfl) rfl (by kernel_rfl) (by kernel_rfl) rfl ?_
  have h2:=hq.2
  have hf:=whole_From false (n:=q.den) (by omega)
  rw [show mkZ false q.den = (q.den : Int) from rfl] at hf
  simp (disch:=first|exact dd|fail) only [go_sem,seval]
  refine cA (rat_den hq) ?_
  simp (disch:=first|exact dd|fail) only [go_sem,seval]
  refine cA hf ?_
  simp (disch:=first|exact dd|fail) only [go_sem,seval]
theorem rat_Num (q : Rat) : C E 100 [qD q] (zD q.num):=by
  refine CG_intro Tryz.func100 rfl (by kernel_rfl) rfl (by kernel_rfl) (by kernel_rfl) rfl ?_
  simp (disch:=first|exact dd|fail) only [go_sem,seval]
  try exact LeV.refl _
theorem rat_Sign {q : Rat} (hq : qs q) : C E 95 [qD q] (.int .i64 (sgI q.num 0)):=by
  refine CG_intro Tryz.func95 rfl (by kernel_rfl) rfl (by kernel_rfl) (by kernel_rfl) rfl ?_
  have h1 : nb q.num.natAbs < 100000000:=hq.1
  simp (disch:=first|exact dd|fail) only [go_sem,seval]
  refine cA (whole_Sign (z:=q.num) (by omega)) ?_
  simp (disch:=first|exact dd|fail) only [go_sem,seval]
theorem rat_scaled {a b : Rat} (ha : qs a) (hb : qs b) : C E 168 [qD a,qD b] (zD (a.num * b.den)):=by
  refine CG_intro Tryz.func168 rfl (by kernel_rfl) rfl (by kernel_rfl) (by kernel_rfl) rfl ?_
  have hn:=nb_qden b
  have h2:=hb.2
  have h1:=ha.1
  have hl:=nbit_nb (qden b)
  simp (disch:=first|exact dd|fail) only [go_sem,seval]
  refine callC (nat_Bits (n:=qden b) (by omega)) ?_ rfl ?_
  · simp (disch:=first|exact dd|fail) only [go_sem,seval,natD_u32s]
    try exact LesV.refl _
  by_cases h1' : b.den = 1
  · have h0:=nbit_zero.2 (qden_zero.2 h1')
    have e : a.num * (b.den : Int) = a.num:=by rw [h1'];simp
    rw [e]
    simp (disch:=first|exact dd|fail) only [go_sem,seval,h0]
    try exact LeV.refl _
  · have h0 : 0 < nbit (qden b):=nbit_pos (Nat.pos_of_ne_zero fun e => h1' (qden_zero.1 e))
    have hz : zb (b.den : Int) = nb b.den:=rfl
    simp (disch:=first|exact dd|fail) only [go_sem,seval]
    refine cL (rat_Den hb) ?_
    simp (disch:=first|exact dd|fail) only [go_sem,seval]
    refine cL (whole_Mul (a:=a.num) (b:=(b.den : Int)) (by omega) (by omega)) ?_
    simp (disch:=first|exact dd|fail) only [go_sem,seval]
theorem rat_Cmp {a b : Rat} (ha : qs a) (hb : qs b) : C E 130 [qD a,qD b] (.int .i64 (sgQ a b)):=by
  refine CG_intro Tryz.func130 rfl (by kernel_rfl) rfl (by kernel_rfl) (by kernel_rfl) rfl ?_
  have m1:=zb_mul a.num b.den
  have m2:=zb_mul b.num a.den
  have hz1 : zb (b.den : Int) = nb b.den:=rfl
  have hz2 : zb (a.den : Int) = nb a.den:=rfl
  have a1:=ha.1
  have a2:=ha.2
  have b1:=hb.1
  have b2:=hb.2
  have hc:=whole_Cmp (a:=a.num * b.den) (b:=b.num * a.den) (by show zb _ < _;omega) (by show zb _ < _;omega)
  rw [sgQ_cross] at hc
  simp (disch:=first|exact dd|fail) only [go_sem,seval]
  refine cL (rat_scaled ha hb) ?_
  simp (disch:=first|exact dd|fail) only [go_sem,seval]
  refine cL (rat_scaled hb ha) ?_
  simp (disch:=first|exact dd|fail) only [go_sem,seval]
  refine cL hc ?_
  simp (disch:=first|exact dd|fail) only [go_sem,seval]
theorem qD_int (v : Int) : LeV (.agg [u32s (limbs v.natAbs), .bool (decide (v < 0)), .nils]) (qD (v : Rat)):=by
  have e : qden (v : Rat) = 0:=qden_zero.2 (Rat.den_intCast v)
  rw [qD,e,limbs_zero,Rat.num_intCast]
  exact LeV.agg (LesV.cons (LeV.refl _) (LesV.cons (LeV.refl _) (LesV.cons LeV.nils LesV.nil)))
end Go.Proofs.YtakaojkfipnfcaaGreatDoor.Lv
