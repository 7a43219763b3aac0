/- Numbers out of bytes. Whole numbers and quotients out of bytes. -/
import Derived.Test.YtakaojkfipnfcaaGreatDoorG22
import Derived.Test.YtakaojkfipnfcaaGreatDoorG21
set_option linter.unusedVariables false
set_option linter.unusedSimpArgs false
set_option maxRecDepth 100000
set_option maxHeartbeats 4000000
namespace Go.Proofs.YtakaojkfipnfcaaGreatDoor.Lv
open Go Go.RowKit
theorem lR_lmb {l : List UInt8} {N i j : Nat} (hi : i < l.length) (hj : j < N) : (if j = i / 4 then .int .u32 (((256 ^ i * (l.getD (l.length - 1 - i) 0).toNat + loB l i) / 4294967296 ^ (i / 4) % 4294967296 : Nat) : Int) else lR (lmb N (loB l i)) j) = lR (lmb N (loB l (i + 1))) j:=by
  unfold lR
  rw [lmb_at hj,loB_succ hi]
  by_cases h : j = i / 4
  · rw [if_pos h,h,lmb_at (by omega)]
  · rw [if_neg h,lmb_at hj,lmb_else (loB_lt (by omega)) (UInt8.toNat_lt _) h]
theorem lR_at {N x j : Nat} (h : j < N) : lR (lmb N x) j = .int .u32 ((x / 4294967296 ^ j % 4294967296 : Nat) : Int):=by
  unfold lR
  rw [lmb_at h]
theorem lR_z {N j : Nat} (h : j < N) {b : List UInt8} : lR (lmb N (loB b 0)) j = .int .u32 0:=by
  rw [lR_at h,loB_zero,Nat.zero_div]
  rfl
theorem LeV_nl : LeV .nils (u32s (limbs 0)):=by
  unfold u32s
  rw [limbs_zero]
  exact LeV.nils
def ndD (b : List UInt8) : D:=.tup [natD (rdV b), .int .i64 (if zhd b = true then 2 else 0)]
theorem nd_no {b : List UInt8} (h : zhd b = true) : ndD b = .tup [natD 0, .int .i64 2]:=by unfold ndD rdV;rw [if_pos h,if_pos h]
theorem nd_yes {b : List UInt8} (h : zhd b = false) : ndD b = .tup [natD (valB b), .int .i64 0]:=by unfold ndD rdV;rw [h];rfl
theorem nat_Read {b : List UInt8} (hb : b.length < 1000000000) : C E 197 [.str b] (ndD b):=by
  refine CG_intro Tryz.func197 rfl (by kernel_rfl) rfl (by kernel_rfl) (by kernel_rfl) rfl ?_
  by_cases h0 : b = []
  · subst h0
    have hz : zhd ([] : List UInt8) = false:=rfl
    rw [nd_yes hz]
    have e : ([] : List UInt8).length = 0:=rfl
    have hc:=nat_cut (l:=[]) (fun x hx => by cases hx) (by simp)
    simp (disch:=first|exact dd|fail) only [go_sem,seval,e]
    refine AL.step ?_
    simp (disch:=first|exact dd|fail) only [go_sem,seval]
    refine callC hc ?_ rfl ?_
    · simp (disch:=first|exact dd|fail) only [go_sem,seval,u32s]
      try exact LesV_rows rfl fun j hj => absurd hj (by simp)
    simp (disch:=first|exact dd|fail) only [go_sem,seval]
    try exact LeV.refl _
  have e0 : (b == []) = false:=beq_eq_false_iff_ne.2 h0
  have hpos : 0 < b.length:=List.length_pos_iff.2 h0
  have hc0:=(b.getD 0 0).toNat_lt
  by_cases h1 : (b.getD 0 0).toNat = 0
  · have hz : zhd b = true:=by unfold zhd;exact decide_eq_true ⟨hpos,h1⟩
    rw [nd_no hz]
    simp (disch:=first|exact dd|fail) only [go_sem,seval,e0,bne,h1]
    exact LeV.tup (LesV.cons (LeV.agg (LesV.cons LeV_nl (LesV.refl _))) (LesV.refl _))
  have hz : zhd b = false:=by unfold zhd;exact decide_eq_false fun h => h1 h.2
  rw [nd_yes hz]
  obtain ⟨N,hN,hNl⟩ : ∃ N : Nat,IntKind.i64.wrap (((b.length : Int) + 3).tdiv 4) = (N : Int) ∧ b.length ≤ 4 * N ∧ N < 1000000000:=by
    refine ⟨(b.length + 3) / 4, ?_,by omega,by omega⟩
    rw [Int.tdiv_eq_ediv_of_nonneg (by omega),wrap_i64 (by omega)];omega
  have hc:=nat_cut (l:=lmb N (valB b)) (lmb_lows _ _) (by rw [lmb_len];omega)
  rw [lmb_fin (by omega)] at hc
  have hlen:=lmb_len N (valB b)
  simp (disch:=first|exact dd|fail) only [go_sem,seval,e0,bne,hN]
  refine ⟨by omega,by omega,by omega, ?_⟩
  refine AL.of (fun i : Nat => i ≤ b.length) (fun i => b.length - i) (fun i => [(0, .str b),(2, .ad 0 0),(4, .sl 1 0 0 N),(20, .int .i64 b.length),(21, .int .i64 i)]) (fun i => [(1, .row false 0 false 1 N (lR (lmb N (loB b i)))),(0, .var true 1 (.agg [.nils]))]) 0 (Nat.zero_le _) ?_ ?_ ?_ ?_
  · simp (disch:=first|exact dd|fail) only [go_sem,seval]
    try exact LeV.refl _
  · simp (disch:=first|exact dd|fail) only [go_sem,seval]
    exact fun j hj => Le.of_eq (lR_z hj).symm
  · intro x _;simp (disch:=first|exact dd|fail) only [go_sem,seval]
  intro i hi
  by_cases hil : i = b.length
  · simp (disch:=first|exact dd|fail) only [go_sem,seval,hil]
    refine callC hc ?_ rfl ?_
    · simp (disch:=first|exact dd|fail) only [go_sem,seval,u32s]
      exact LesV_rows hlen.symm fun j hj => by rw [loB_all];rfl
    simp (disch:=first|exact dd|fail) only [go_sem,seval]
    try exact LeV.refl _
  · have e4 : IntKind.i64.wrap ((i : Int).tdiv 4) = ((i / 4 : Nat) : Int):=by
      rw [Int.tdiv_eq_ediv_of_nonneg (by omega),wrap_i64 (by omega)];omega
    have e5 : (i : Int).tmod 4 = ((i % 4 : Nat) : Int):=by
      rw [Int.tmod_eq_emod_of_nonneg (by omega)];omega
    have e6 : ((b.length : Int) - 1 - (i : Int)).toNat = b.length - 1 - i:=by omega
    have e7 : (((8 : Int) * ((i % 4 : Nat) : Int)).toNat) = 8 * (i % 4):=by omega
    have em : min (8 * (i % 4)) 32 = 8 * (i % 4):=by omega
    have e8:=lR_at (N:=N) (x:=loB b i) (j:=i / 4) (by omega)
    have hor:=lmb_or (loB_lt (l:=b) (i:=i) (by omega)) (UInt8.toNat_lt (b.getD (b.length - 1 - i) 0))
    have hcc:=UInt8.toNat_lt (b.getD (b.length - 1 - i) 0)
    have hlr:=fun j hj => lR_lmb (l:=b) (N:=N) (i:=i) (j:=j) (by omega) hj
    generalize hq : (b.getD (b.length - 1 - i) 0).toNat = c at *
    simp (disch:=first|exact dd|fail) only [go_sem,seval,e4,e5,e6,hq,e7,em,e8,hor]
    refine ⟨i + 1,by show i + 1 ≤ b.length;omega,by show b.length - (i + 1) < b.length - i;omega, ?_, ?_⟩
    · simp (disch:=first|exact dd|fail) only [go_sem,seval]
      try exact LeV.refl _
    · simp (disch:=first|exact dd|fail) only [go_sem,seval]
      exact fun j hj => Le.of_eq (hlr j hj)
def rndD (b : List UInt8) : D:=.tup [if zhd b = true then .nils else nD (valB b), .bool (!zhd b)]
theorem ref_NatRead {b : List UInt8} (hb : b.length < 1000000000) : C E 157 [.str b] (rndD b):=by
  refine CG_intro Tryz.func157 rfl (by kernel_rfl) rfl (by kernel_rfl) (by kernel_rfl) rfl ?_
  unfold rndD
  by_cases h1 : 0 < b.length ∧ (b.getD 0 0).toNat = 0
  · have hz : zhd b = true:=by unfold zhd;exact decide_eq_true h1
    obtain ⟨h1,h2⟩:=h1
    rw [hz]
    simp (disch:=first|exact dd|fail) only [go_sem,seval,h2]
    try exact LeV.refl _
  have hz : zhd b = false:=by unfold zhd;exact decide_eq_false h1
  have hc0:=(b.getD 0 0).toNat_lt
  rw [hz]
  by_cases hb0 : b = []
  · subst hb0
    have e : ([] : List UInt8).length = 0:=rfl
    have hc:=ref_trim (l:=[0]) (fun x hx => by simp at hx;omega) (by simp)
    simp (disch:=first|exact dd|fail) only [go_sem,seval,e]
    refine AL.step ?_
    simp (disch:=first|exact dd|fail) only [go_sem,seval]
    refine callC hc ?_ rfl ?_
    · simp (disch:=first|exact dd|fail) only [go_sem,seval,u32s]
      exact LesV_rows rfl fun j hj => by
        obtain rfl : j = 0:=by simp at hj;omega
        rfl
    simp (disch:=first|exact dd|fail) only [go_sem,seval]
    try exact LeV.refl _
  have hb1 : 0 < b.length:=List.length_pos_iff.2 hb0
  have hb2 : (b.getD 0 0).toNat ≠ 0:=fun h => h1 ⟨hb1,h⟩
  obtain ⟨N,hN,hNl⟩ : ∃ N : Nat,IntKind.i64.wrap (((b.length : Int)).tdiv 4) = (N : Int) - 1 ∧ b.length ≤ 4 * N ∧ N < 1000000000 ∧ 0 < N:=by
    refine ⟨b.length / 4 + 1, ?_,by omega,by omega,by omega⟩
    rw [Int.tdiv_eq_ediv_of_nonneg (by omega),wrap_i64 (by omega)];omega
  have hN1 : (N : Int) - 1 + 1 = (N : Int):=by omega
  have hc:=ref_trim (l:=lmb N (valB b)) (lmb_lows _ _) (by rw [lmb_len];omega)
  rw [lmb_fin (by omega)] at hc
  have hlen:=lmb_len N (valB b)
  simp (disch:=first|exact dd|fail) only [go_sem,seval,hN,hN1]
  refine ⟨by omega,by omega,by omega, ?_⟩
  refine AL.of (fun i : Nat => i ≤ b.length) (fun i => b.length - i) (fun i => [(0, .str b),(4, .sl 0 0 0 N),(5, .int .i64 i)]) (fun i => [(0, .row false 0 false 1 N (lR (lmb N (loB b i))))]) 0 (Nat.zero_le _) ?_ ?_ ?_ ?_
  · simp (disch:=first|exact dd|fail) only [go_sem,seval]
    try exact LeV.refl _
  · simp (disch:=first|exact dd|fail) only [go_sem,seval]
    exact fun j hj => Le.of_eq (lR_z hj).symm
  · intro x _;simp (disch:=first|exact dd|fail) only [go_sem,seval]
  intro i hi
  by_cases hil : i = b.length
  · simp (disch:=first|exact dd|fail) only [go_sem,seval,hil]
    refine callC hc ?_ rfl ?_
    · simp (disch:=first|exact dd|fail) only [go_sem,seval,u32s]
      exact LesV_rows hlen.symm fun j hj => by rw [loB_all];rfl
    simp (disch:=first|exact dd|fail) only [go_sem,seval]
    try exact LeV.refl _
  · have e4 : IntKind.i64.wrap ((i : Int).tdiv 4) = ((i / 4 : Nat) : Int):=by
      rw [Int.tdiv_eq_ediv_of_nonneg (by omega),wrap_i64 (by omega)];omega
    have e5 : (i : Int).tmod 4 = ((i % 4 : Nat) : Int):=by
      rw [Int.tmod_eq_emod_of_nonneg (by omega)];omega
    have e6 : ((b.length : Int) - 1 - (i : Int)).toNat = b.length - 1 - i:=by omega
    have e7 : (((8 : Int) * ((i % 4 : Nat) : Int)).toNat) = 8 * (i % 4):=by omega
    have em : min (8 * (i % 4)) 32 = 8 * (i % 4):=by omega
    have e8:=lR_at (N:=N) (x:=loB b i) (j:=i / 4) (by omega)
    have hor:=lmb_or (loB_lt (l:=b) (i:=i) (by omega)) (UInt8.toNat_lt (b.getD (b.length - 1 - i) 0))
    have hcc:=UInt8.toNat_lt (b.getD (b.length - 1 - i) 0)
    have hlr:=fun j hj => lR_lmb (l:=b) (N:=N) (i:=i) (j:=j) (by omega) hj
    generalize hq : (b.getD (b.length - 1 - i) 0).toNat = c at *
    simp (disch:=first|exact dd|fail) only [go_sem,seval,e4,e5,e6,hq,e7,em,e8,hor]
    refine ⟨i + 1,by show i + 1 ≤ b.length;omega,by show b.length - (i + 1) < b.length - i;omega, ?_, ?_⟩
    · simp (disch:=first|exact dd|fail) only [go_sem,seval]
      try exact LeV.refl _
    · simp (disch:=first|exact dd|fail) only [go_sem,seval]
      exact fun j hj => Le.of_eq (hlr j hj)
def zgD (x : Int × Nat × Nat) : D:=.tup [zD x.1, .int .i64 x.2.1, .int .i64 x.2.2]
def izgD (x : Int × Nat × Nat) : D:=.tup [iD x.1, .int .i64 x.2.1, .int .i64 x.2.2]
theorem LeV_zg0 (n m : Int) : LeV (.tup [.agg [.nils, .bool false], .int .i64 n, .int .i64 m]) (.tup [zD 0, .int .i64 n, .int .i64 m]):=
  LeV.tup (LesV.cons (LeV.agg (LesV.cons LeV_nl (LesV.refl _))) (LesV.refl _))
theorem LeV_iz0 (n m : Int) : LeV (.tup [.agg [.bool false, .nils], .int .i64 n, .int .i64 m]) (.tup [iD 0, .int .i64 n, .int .i64 m]):=
  LeV.tup (LesV.cons (LeV.agg (LesV.cons (LeV.refl _) (LesV.cons LeV_nl LesV.nil))) (LesV.refl _))
theorem vint_GetInt {b : List UInt8} {a bits : Int} (ha : -9223372036854775808 ≤ a ∧ a ≤ 9223372036854775807) (hbits : -9223372036854775808 ≤ bits ∧ bits ≤ 9223372036854775807) (hb : b.length < 1000000000) : C E 181 [.str b, .int .i64 a, .int .i64 bits] (zgD (zget b a bits)):=by
  refine CG_intro Tryz.func181 rfl (by kernel_rfl) rfl (by kernel_rfl) (by kernel_rfl) rfl ?_
  have hG:=vint_Get b a ha (by omega)
  have hlt:=vget_lt b a
  have her:=vget_err (b:=b) (a:=a)
  have hen:=vget_end (b:=b) (a:=a)
  have hr : zget b a bits = zget b a bits:=rfl
  conv at hr => rhs;unfold zget
  obtain ⟨B,hB,hBn,hBl⟩ : ∃ B : Nat,max bits 0 = (B : Int) ∧ (max bits 0).toNat = B ∧ B ≤ 9223372036854775807:=⟨(max bits 0).toNat,by omega,rfl,by omega⟩
  rw [hBn] at hr
  generalize zget b a bits = res at *
  generalize vget b a = x at *
  obtain ⟨v,p,c⟩:=x
  simp only at hlt her hen hr
  unfold vgD at hG
  simp (disch:=first|exact dd|fail) only [go_sem,seval,hB]
  refine cA hG ?_
  have eB : IntKind.i64.wrap ((B : Int).tdiv 8) = ((B / 8 : Nat) : Int):=by
    rw [Int.tdiv_eq_ediv_of_nonneg (by omega),wrap_i64 (by omega)];omega
  have ev2 : IntKind.u64.wrap ((v : Int).tdiv 2) = ((v / 2 : Nat) : Int):=by
    rw [Int.tdiv_eq_ediv_of_nonneg (by omega),wrap_u64 (by omega)];omega
  by_cases h1 : c = 0
  case neg =>
    rw [if_pos h1] at hr
    subst hr
    have:=her h1
    unfold zgD
    simp (disch:=first|exact dd|fail) only [go_sem,seval,ev2]
    exact LeV_zg0 _ _
  rw [if_neg (by omega)] at hr
  have hen:=hen h1
  clear her
  by_cases h2 : B / 8 + 1 < v / 2
  case pos =>
    rw [if_pos h2] at hr
    subst hr
    unfold zgD
    simp (disch:=first|exact dd|fail) only [go_sem,seval,ev2,eB]
    exact LeV_zg0 _ _
  rw [if_neg h2] at hr
  by_cases h3 : b.length - p < v / 2
  case pos =>
    rw [if_pos h3] at hr
    subst hr
    unfold zgD
    simp (disch:=first|exact dd|fail) only [go_sem,seval,ev2,eB]
    exact LeV_zg0 _ _
  rw [if_neg h3] at hr
  have es : ((p : Int) + ((v / 2 : Nat) : Int)).toNat = p + v / 2:=by omega
  have hSl : ((b.take (p + v / 2)).drop p).length < 1000000000:=by rw [List.length_drop,List.length_take];omega
  have hR:=nat_Read hSl
  generalize hSe : (b.take (p + v / 2)).drop p = S at *
  simp (disch:=first|exact dd|fail) only [go_sem,seval,ev2,eB,es,hSe]
  refine cA hR ?_
  have hnb:=valB_nb S
  have hbt:=nbit_nb (valB S)
  by_cases h4 : zhd S = true
  case pos =>
    rw [if_pos (.inl h4)] at hr
    subst hr
    rw [nd_no h4]
    unfold zgD
    simp (disch:=first|exact dd|fail) only [go_sem,seval]
    exact LeV_zg0 _ _
  have h4 : zhd S = false:=by simpa using h4
  rw [nd_yes h4]
  by_cases h5 : v = 1
  case pos =>
    rw [if_pos (.inr h5)] at hr
    subst hr
    unfold zgD
    simp (disch:=first|exact dd|fail) only [go_sem,seval]
    exact LeV_zg0 _ _
  rw [if_neg (by rw [h4];simp [h5])] at hr
  have hBt:=nat_Bits (n:=valB S) (by omega)
  simp (disch:=first|exact dd|fail) only [go_sem,seval]
  refine cA hBt ?_
  by_cases h6 : B < nbit (valB S)
  case pos =>
    rw [if_pos h6] at hr
    subst hr
    unfold zgD
    simp (disch:=first|exact dd|fail) only [go_sem,seval]
    exact LeV_zg0 _ _
  rw [if_neg h6] at hr
  subst hr
  have em : (v : Int).tmod 2 = ((v % 2 : Nat) : Int):=by
    rw [Int.tmod_eq_emod_of_nonneg (by omega)];omega
  have hF:=whole_From (decide (v % 2 = 1)) (n:=valB S) (by omega)
  unfold zgD
  by_cases h7 : v % 2 = 1
  · rw [decide_eq_true h7] at hF ⊢
    simp (disch:=first|exact dd|fail) only [go_sem,seval,em]
    refine cA hF ?_
    simp (disch:=first|exact dd|fail) only [go_sem,seval]
    try exact LeV.refl _
  · rw [decide_eq_false h7] at hF ⊢
    simp (disch:=first|exact dd|fail) only [go_sem,seval,em]
    refine cA hF ?_
    simp (disch:=first|exact dd|fail) only [go_sem,seval]
    try exact LeV.refl _
theorem r2_GetInt {b : List UInt8} {a bits : Int} (ha : -9223372036854775808 ≤ a ∧ a ≤ 9223372036854775807) (hbits : -9223372036854775808 ≤ bits ∧ bits ≤ 9223372036854775807) (hb : b.length < 1000000000) : C E 114 [.str b, .int .i64 a, .int .i64 bits] (izgD (zget b a bits)):=by
  refine CG_intro Tryz.func114 rfl (by kernel_rfl) rfl (by kernel_rfl) (by kernel_rfl) rfl ?_
  have hG:=r2_Get b a ha (by omega)
  have hlt:=vget_lt b a
  have her:=vget_err (b:=b) (a:=a)
  have hen:=vget_end (b:=b) (a:=a)
  have hr : zget b a bits = zget b a bits:=rfl
  conv at hr => rhs;unfold zget
  obtain ⟨B,hB,hBn,hBl⟩ : ∃ B : Nat,max bits 0 = (B : Int) ∧ (max bits 0).toNat = B ∧ B ≤ 9223372036854775807:=⟨(max bits 0).toNat,by omega,rfl,by omega⟩
  rw [hBn] at hr
  generalize zget b a bits = res at *
  generalize vget b a = x at *
  obtain ⟨v,p,c⟩:=x
  simp only at hlt her hen hr
  unfold vgD at hG
  simp (disch:=first|exact dd|fail) only [go_sem,seval]
  refine cA hG ?_
  have eB : IntKind.i64.wrap ((B : Int).tdiv 8) = ((B / 8 : Nat) : Int):=by
    rw [Int.tdiv_eq_ediv_of_nonneg (by omega),wrap_i64 (by omega)];omega
  have ev2 : IntKind.u64.wrap ((v : Int).tdiv 2) = ((v / 2 : Nat) : Int):=by
    rw [Int.tdiv_eq_ediv_of_nonneg (by omega),wrap_u64 (by omega)];omega
  by_cases h1 : c = 0
  case neg =>
    rw [if_pos h1] at hr
    subst hr
    have:=her h1
    unfold izgD
    simp (disch:=first|exact dd|fail) only [go_sem,seval,ev2]
    exact LeV_iz0 _ _
  rw [if_neg (by omega)] at hr
  have hen:=hen h1
  clear her
  by_cases h2 : B / 8 + 1 < v / 2
  case pos =>
    rw [if_pos h2] at hr
    subst hr
    unfold izgD
    simp (disch:=first|exact dd|fail) only [go_sem,seval,hB,ev2,eB]
    exact LeV_iz0 _ _
  rw [if_neg h2] at hr
  by_cases h3 : b.length - p < v / 2
  case pos =>
    rw [if_pos h3] at hr
    subst hr
    unfold izgD
    simp (disch:=first|exact dd|fail) only [go_sem,seval,hB,ev2,eB]
    exact LeV_iz0 _ _
  rw [if_neg h3] at hr
  have es : ((p : Int) + ((v / 2 : Nat) : Int)).toNat = p + v / 2:=by omega
  have hSl : ((b.take (p + v / 2)).drop p).length < 1000000000:=by rw [List.length_drop,List.length_take];omega
  have hS0 : v / 2 = 0 → zhd ((b.take (p + v / 2)).drop p) = false:=fun h => by
    unfold zhd
    exact decide_eq_false fun hh => by
      have:=hh.1
      rw [List.length_drop,List.length_take] at this
      omega
  have hR:=ref_NatRead hSl
  generalize hSe : (b.take (p + v / 2)).drop p = S at *
  simp (disch:=first|exact dd|fail) only [go_sem,seval,hB,ev2,eB,es,hSe]
  have hnb:=valB_nb S
  have hbt:=nbit_nb (valB S)
  by_cases h4 : zhd S = true
  case pos =>
    rw [if_pos (.inl h4)] at hr
    subst hr
    unfold rndD at hR
    rw [h4] at hR
    simp only [if_true,Bool.not_true] at hR
    refine cA hR ?_
    unfold izgD
    simp (disch:=first|exact dd|fail) only [go_sem,seval]
    exact LeV_iz0 _ _
  have h4 : zhd S = false:=by simpa using h4
  unfold rndD at hR
  rw [h4] at hR
  simp only [Bool.false_eq_true,if_false,Bool.not_false] at hR
  refine cA hR ?_
  have em : (v : Int).tmod 2 = ((v % 2 : Nat) : Int):=by
    rw [Int.tmod_eq_emod_of_nonneg (by omega)];omega
  by_cases h5 : v = 1
  case pos =>
    rw [if_pos (.inr h5)] at hr
    subst hr
    subst h5
    unfold izgD
    simp (disch:=first|exact dd|fail) only [go_sem,seval,em]
    exact LeV_iz0 _ _
  rw [if_neg (by rw [h4];simp [h5])] at hr
  have hBt:=ref_Bits (n:=valB S) (by omega)
  have hF:=ref_IntFrom (decide (v % 2 = 1)) (n:=valB S) (by omega)
  have pre : ∀ {Q : Prop},(v / 2 = 0 → v % 2 = 0 → Q) → (0 < v / 2 → Q) → Q:=fun {Q} q1 q2 => by
    by_cases h : v / 2 = 0
    · exact q1 h (by omega)
    · exact q2 (by omega)
  refine pre (fun k1 k2 => ?_) (fun k1 => ?_)
  all_goals
    simp (disch:=first|exact dd|fail) only [go_sem,seval,em]
    refine cA hBt ?_
    by_cases h6 : B < nbit (valB S)
    case pos =>
      rw [if_pos h6] at hr
      subst hr
      unfold izgD
      simp (disch:=first|exact dd|fail) only [go_sem,seval]
      exact LeV_iz0 _ _
    rw [if_neg h6] at hr
    subst hr
    unfold izgD
    by_cases h7 : v % 2 = 1
    · rw [decide_eq_true h7] at hF ⊢
      first
      | (exfalso;omega)
      | (simp (disch:=first|exact dd|fail) only [go_sem,seval,em]
         refine cA hF ?_
         simp (disch:=first|exact dd|fail) only [go_sem,seval]
         try exact LeV.refl _)
    · rw [decide_eq_false h7] at hF ⊢
      simp (disch:=first|exact dd|fail) only [go_sem,seval,em]
      refine cA hF ?_
      simp (disch:=first|exact dd|fail) only [go_sem,seval]
      try exact LeV.refl _
theorem rat_New {n d : Int} (hn : zb n < 500000000) (hd : zb d < 500000000) (h0 : 0 < d) : C E 137 [zD n,zD d] (.tup [qD (mkRat n d.natAbs), .bool true]):=by
  refine CG_intro Tryz.func137 rfl (by kernel_rfl) rfl (by kernel_rfl) (by kernel_rfl) rfl ?_
  unfold zb at hn hd
  have hS:=whole_Sign (z:=d) (by omega)
  have hA:=whole_Abs d
  have hL:=rat_least (n:=n) (d:=d.natAbs) hn hd
  rw [dOf_pos (by omega)] at hL
  have hs : sgI d 0 = 1:=sgI_gt h0
  simp (disch:=first|exact dd|fail) only [go_sem,seval]
  refine cA hS ?_
  simp (disch:=first|exact dd|fail) only [go_sem,seval,hs]
  refine cA hS ?_
  simp (disch:=first|exact dd|fail) only [go_sem,seval,hs]
  refine cL hA ?_
  simp (disch:=first|exact dd|fail) only [go_sem,seval]
  refine cL hL ?_
  simp (disch:=first|exact dd|fail) only [go_sem,seval]
  try exact LeV.refl _
theorem rat_New0 {n : Int} (hn : zb n < 500000000) : C E 137 [zD n,zD 0] (.tup [qD 0, .bool false]):=by
  refine CG_intro Tryz.func137 rfl (by kernel_rfl) rfl (by kernel_rfl) (by kernel_rfl) rfl ?_
  have hS:=whole_Sign (z:=0) (by show nb 0 < _;rw [nb,limbs_zero];simp)
  have hs : sgI 0 0 = 0:=sgI_eq 0
  simp (disch:=first|exact dd|fail) only [go_sem,seval]
  refine cA hS ?_
  simp (disch:=first|exact dd|fail) only [go_sem,seval,hs]
  exact LeV.tup (LesV.cons LeV_q0' (LesV.refl _))
theorem rat_NewN {n d : Int} (hn : zb n < 500000000) (hd : zb d < 500000000) (h0 : d < 0) : C E 137 [zD n,zD d] (.tup [qD (mkRat (-n) d.natAbs), .bool true]):=by
  refine CG_intro Tryz.func137 rfl (by kernel_rfl) rfl (by kernel_rfl) (by kernel_rfl) rfl ?_
  have hN:=whole_Neg (z:=n) (by omega)
  unfold zb at hn hd
  have hS:=whole_Sign (z:=d) (by omega)
  have hA:=whole_Abs d
  have hL:=rat_least (n:=-n) (d:=d.natAbs) (by unfold zb;rw [Int.natAbs_neg];exact hn) hd
  rw [dOf_pos (by omega)] at hL
  have hs : sgI d 0 = -1:=sgI_lt h0
  simp (disch:=first|exact dd|fail) only [go_sem,seval]
  refine cA hS ?_
  simp (disch:=first|exact dd|fail) only [go_sem,seval,hs]
  refine cA hS ?_
  simp (disch:=first|exact dd|fail) only [go_sem,seval,hs]
  refine cA hN ?_
  simp (disch:=first|exact dd|fail) only [go_sem,seval]
  refine cL hA ?_
  simp (disch:=first|exact dd|fail) only [go_sem,seval]
  refine cL hL ?_
  simp (disch:=first|exact dd|fail) only [go_sem,seval]
  try exact LeV.refl _
def qgD (x : Rat × Nat × Nat) : D:=.tup [qD x.1, .int .i64 x.2.1, .int .i64 x.2.2]
def rr00 : D:=.agg [.bool false, .nils, .nils]
def rqgD (x : Rat × Nat × Nat) : D:=.tup [if x.2.2 = 0 then rqD x.1 else rr00, .int .i64 x.2.1, .int .i64 x.2.2]
theorem LeV_qg0 (n m : Int) : LeV (.tup [.agg [.nils, .bool false, .nils], .int .i64 n, .int .i64 m]) (.tup [qD 0, .int .i64 n, .int .i64 m]):=
  LeV.tup (LesV.cons (LeV.agg (LesV.cons LeV_nl (LesV.cons (LeV.refl _) (LesV.cons LeV_nl LesV.nil)))) (LesV.refl _))
theorem mk_den_ne {n : Int} {d : Nat} (hd : d ≠ 0) : ((mkRat n d).den = d ↔ d.gcd n.natAbs = 1):=by
  have h:=(mk_parts n d hd).2.2
  rw [h]
  have hg : 0 < d.gcd n.natAbs:=Nat.gcd_pos_of_pos_left _ (by omega)
  have hdv : d.gcd n.natAbs ∣ d:=Nat.gcd_dvd_left _ _
  obtain ⟨k,hk⟩:=hdv
  generalize d.gcd n.natAbs = g at *
  subst hk
  rw [Nat.mul_div_cancel_left _ hg]
  constructor
  · intro h
    rcases Nat.eq_zero_or_pos k with hk | hk
    · subst hk;simp at hd
    · have : 1 * k = g * k:=by omega
      exact (Nat.eq_of_mul_eq_mul_right hk this).symm
  · intro h;subst h;omega
theorem vint_GetRat {b : List UInt8} {a bits : Int} (ha : -9223372036854775808 ≤ a ∧ a ≤ 9223372036854775807) (hbits : -9223372036854775808 ≤ bits ∧ bits ≤ 9223372036854775807) (hb : b.length < 100000000) : C E 156 [.str b, .int .i64 a, .int .i64 bits] (qgD (qget b a bits)):=by
  refine CG_intro Tryz.func156 rfl (by kernel_rfl) rfl (by kernel_rfl) (by kernel_rfl) rfl ?_
  have hG:=vint_GetInt (b:=b) ha hbits (by omega)
  have hok:=zget_ok (b:=b) (a:=a) (bits:=bits)
  have her:=zget_err (b:=b) (a:=a) (bits:=bits)
  have hr : qget b a bits = qget b a bits:=rfl
  conv at hr => rhs;unfold qget
  generalize qget b a bits = res at *
  generalize zget b a bits = x at *
  obtain ⟨n,p,c⟩:=x
  simp only at hok her hr
  unfold zgD at hG
  simp (disch:=first|exact dd|fail) only [go_sem,seval]
  refine cA hG ?_
  by_cases h1 : c = 0
  case neg =>
    rw [if_pos h1] at hr
    subst hr
    have:=her h1
    unfold qgD
    simp (disch:=first|exact dd|fail) only [go_sem,seval]
    exact LeV_qg0 _ _
  rw [if_neg (by omega)] at hr
  have hok:=hok h1
  clear her
  have hG2:=vint_GetInt (b:=b) (a:=(p : Int)) (by omega) hbits (by omega)
  have hok2:=zget_ok (b:=b) (a:=(p : Int)) (bits:=bits)
  have her2:=zget_err (b:=b) (a:=(p : Int)) (bits:=bits)
  generalize zget b p bits = x at *
  obtain ⟨d,p2,c2⟩:=x
  simp only at hok2 her2 hr
  unfold zgD at hG2
  simp (disch:=first|exact dd|fail) only [go_sem,seval]
  refine cA hG2 ?_
  by_cases h2 : c2 = 0
  case neg =>
    rw [if_pos h2] at hr
    subst hr
    have:=her2 h2
    unfold qgD
    simp (disch:=first|exact dd|fail) only [go_sem,seval]
    exact LeV_qg0 _ _
  rw [if_neg (by omega)] at hr
  have hok2:=hok2 h2
  clear her2
  have zn : zb n < 100000000:=by omega
  have zd : zb d < 100000000:=by omega
  rcases Int.lt_trichotomy d 0 with h3 | h3 | h3
  · rw [if_pos (.inl (by omega))] at hr
    subst hr
    have hN:=rat_NewN (n:=n) (d:=d) (by omega) (by omega) h3
    have hle:=mk_num_le (-n) (d:=d.natAbs) (by omega)
    have hq : qs (mkRat (-n) d.natAbs):=⟨Nat.lt_of_le_of_lt hle.1 (by unfold zb at zn ⊢;rw [Int.natAbs_neg];omega),Nat.lt_of_le_of_lt hle.2 zd⟩
    have hD:=rat_Den hq
    have hC:=whole_Cmp (a:=((mkRat (-n) d.natAbs).den : Int)) (b:=d) (by rw [Int.natAbs_natCast];have:=hq.2;omega) (by unfold zb at zd;omega)
    have hs : sgI ((mkRat (-n) d.natAbs).den : Int) d = 1:=sgI_gt (by omega)
    unfold qgD
    generalize mkRat (-n) d.natAbs = q at *
    simp (disch:=first|exact dd|fail) only [go_sem,seval]
    refine cA hN ?_
    simp (disch:=first|exact dd|fail) only [go_sem,seval]
    refine cL hD ?_
    simp (disch:=first|exact dd|fail) only [go_sem,seval]
    refine cL hC ?_
    simp (disch:=first|exact dd|fail) only [go_sem,seval,hs]
    exact LeV_qg0 _ _
  · rw [if_pos (.inl (by omega))] at hr
    subst hr
    subst h3
    have hN:=rat_New0 (n:=n) (by omega)
    unfold qgD
    simp (disch:=first|exact dd|fail) only [go_sem,seval]
    refine cA hN ?_
    simp (disch:=first|exact dd|fail) only [go_sem,seval]
    exact LeV_qg0 _ _
  · have hN:=rat_New (n:=n) (d:=d) (by omega) (by omega) h3
    have hle:=mk_num_le n (d:=d.natAbs) (by omega)
    have hq : qs (mkRat n d.natAbs):=⟨Nat.lt_of_le_of_lt hle.1 (by omega),Nat.lt_of_le_of_lt hle.2 zd⟩
    have hD:=rat_Den hq
    have hC:=whole_Cmp (a:=((mkRat n d.natAbs).den : Int)) (b:=d) (by rw [Int.natAbs_natCast];have:=hq.2;omega) (by unfold zb at zd;omega)
    have hg:=mk_den_ne (n:=n) (d:=d.natAbs) (by omega)
    by_cases h4 : d.natAbs.gcd n.natAbs = 1
    · rw [if_neg (by omega)] at hr
      subst hr
      have hs : sgI ((mkRat n d.natAbs).den : Int) d = 0:=by
        rw [show ((mkRat n d.natAbs).den : Int) = d by rw [hg.2 h4];omega]
        exact sgI_eq d
      unfold qgD
      generalize mkRat n d.natAbs = q at *
      simp (disch:=first|exact dd|fail) only [go_sem,seval]
      refine cA hN ?_
      simp (disch:=first|exact dd|fail) only [go_sem,seval]
      refine cL hD ?_
      simp (disch:=first|exact dd|fail) only [go_sem,seval]
      refine cL hC ?_
      simp (disch:=first|exact dd|fail) only [go_sem,seval,hs]
      try exact LeV.refl _
    · rw [if_pos (.inr h4)] at hr
      subst hr
      have hs : (sgI ((mkRat n d.natAbs).den : Int) d == 0) = false:=by
        rw [beq_eq_false_iff_ne]
        have:=sgI_cases ((mkRat n d.natAbs).den : Int) d
        have h5 : ¬ (mkRat n d.natAbs).den = d.natAbs:=fun e => h4 (hg.1 e)
        omega
      unfold qgD
      generalize mkRat n d.natAbs = q at *
      simp (disch:=first|exact dd|fail) only [go_sem,seval]
      refine cA hN ?_
      simp (disch:=first|exact dd|fail) only [go_sem,seval]
      refine cL hD ?_
      simp (disch:=first|exact dd|fail) only [go_sem,seval]
      refine cL hC ?_
      simp (disch:=first|exact dd|fail) only [go_sem,seval,hs,bne]
      exact LeV_qg0 _ _
theorem r2_GetRat {b : List UInt8} {a bits : Int} (ha : -9223372036854775808 ≤ a ∧ a ≤ 9223372036854775807) (hbits : -9223372036854775808 ≤ bits ∧ bits ≤ 9223372036854775807) (hb : b.length < 100000000) : C E 76 [.str b, .int .i64 a, .int .i64 bits] (rqgD (qget b a bits)):=by
  refine CG_intro Tryz.func76 rfl (by kernel_rfl) rfl (by kernel_rfl) (by kernel_rfl) rfl ?_
  have hG:=r2_GetInt (b:=b) ha hbits (by omega)
  have hok:=zget_ok (b:=b) (a:=a) (bits:=bits)
  have her:=zget_err (b:=b) (a:=a) (bits:=bits)
  have hr : qget b a bits = qget b a bits:=rfl
  conv at hr => rhs;unfold qget
  generalize qget b a bits = res at *
  generalize zget b a bits = x at *
  obtain ⟨n,p,c⟩:=x
  simp only at hok her hr
  unfold izgD at hG
  simp (disch:=first|exact dd|fail) only [go_sem,seval]
  refine cA hG ?_
  by_cases h1 : c = 0
  case neg =>
    rw [if_pos h1] at hr
    subst hr
    have:=her h1
    unfold rqgD rr00
    simp (disch:=first|exact dd|fail) only [go_sem,seval,h1]
    try exact LeV.refl _
  rw [if_neg (by omega)] at hr
  have hok:=hok h1
  clear her
  have hG2:=r2_GetInt (b:=b) (a:=(p : Int)) (by omega) hbits (by omega)
  have hok2:=zget_ok (b:=b) (a:=(p : Int)) (bits:=bits)
  have her2:=zget_err (b:=b) (a:=(p : Int)) (bits:=bits)
  generalize zget b p bits = x at *
  obtain ⟨d,p2,c2⟩:=x
  simp only at hok2 her2 hr
  unfold izgD at hG2
  simp (disch:=first|exact dd|fail) only [go_sem,seval]
  refine cA hG2 ?_
  by_cases h2 : c2 = 0
  case neg =>
    rw [if_pos h2] at hr
    subst hr
    have:=her2 h2
    unfold rqgD rr00
    simp (disch:=first|exact dd|fail) only [go_sem,seval,h2]
    try exact LeV.refl _
  rw [if_neg (by omega)] at hr
  have hok2:=hok2 h2
  clear her2
  have zn : zb n < 50000000:=by omega
  have zd : zb d < 50000000:=by omega
  have hS:=ref_Sign (z:=d) (by omega)
  simp (disch:=first|exact dd|fail) only [go_sem,seval,iD]
  refine cA hS ?_
  by_cases h3 : d ≤ 0
  · rw [if_pos (.inl (by omega))] at hr
    subst hr
    have hs : ¬ 0 < sgI d 0:=by
      have:=sgI_cases d 0
      omega
    unfold rqgD rr00
    simp (disch:=first|exact dd|fail) only [go_sem,seval,hs]
    try exact LeV.refl _
  · have hs : sgI d 0 = 1:=sgI_gt (by omega)
    unfold zb at zn zd
    have hGc:=ref_Gcd (a:=d.natAbs) (b:=n.natAbs) (by omega) (by omega)
    have hO:=ref_NatOf (v:=1) (by omega)
    have hgb : nb (d.natAbs.gcd n.natAbs) < 1073741824:=by
      have : d.natAbs.gcd n.natAbs ≤ d.natAbs:=Nat.gcd_le_left _ (by omega)
      have:=nb_mono this
      omega
    have hCm:=ref_CmpNat (a:=d.natAbs.gcd n.natAbs) (b:=1) hgb (by have:=nb_lt (n:=1) (k:=1);omega)
    have hg:=mk_den_ne (n:=n) (d:=d.natAbs) (by omega)
    have hmk:=mk_parts n d.natAbs (by omega)
    simp (disch:=first|exact dd|fail) only [go_sem,seval,iD,hs]
    refine cA hGc ?_
    simp (disch:=first|exact dd|fail) only [go_sem,seval]
    refine cA hO ?_
    simp (disch:=first|exact dd|fail) only [go_sem,seval]
    refine cA hCm ?_
    by_cases h4 : d.natAbs.gcd n.natAbs = 1
    · rw [if_neg (by omega)] at hr
      subst hr
      have hs2 : sgI ((d.natAbs.gcd n.natAbs : Nat) : Int) ((1 : Nat) : Int) = 0:=by rw [h4];exact sgI_eq 1
      have e : rqD (mkRat n d.natAbs) = .agg [.bool (decide (n < 0)),nD n.natAbs,nD d.natAbs]:=by
        unfold rqD
        have h5 : decide ((mkRat n d.natAbs).num < 0) = decide (n < 0):=by rw [decide_eq_decide];exact hmk.2.1
        rw [hg.2 h4,hmk.1,h4,Nat.div_one,h5]
      unfold rqgD rr00
      rw [if_pos rfl,e]
      simp (disch:=first|exact dd|fail) only [go_sem,seval,hs2]
      try exact LeV.refl _
    · rw [if_pos (.inr h4)] at hr
      subst hr
      have hs2 : (sgI ((d.natAbs.gcd n.natAbs : Nat) : Int) ((1 : Nat) : Int) == 0) = false:=by
        rw [beq_eq_false_iff_ne]
        have:=sgI_cases ((d.natAbs.gcd n.natAbs : Nat) : Int) ((1 : Nat) : Int)
        omega
      have hs3 : (sgI ((d.natAbs.gcd n.natAbs : Nat) : Int) 1 == 0) = false:=hs2
      unfold rqgD rr00
      simp (disch:=first|exact dd|fail) only [go_sem,seval,hs2,hs3,bne]
      try exact LeV.refl _
end Go.Proofs.YtakaojkfipnfcaaGreatDoor.Lv
