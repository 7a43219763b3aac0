/- Numbers as bytes. Monomials: the small functions of Go's library. Monomials: degrees. Monomials: the order. Monomials: arrays compared. Monomials: which one is less. Monomials: products, and what goes into what. Monomials: the order's laws. slices.Backward: its function calls yield with each element, the last one first. Monomials: the last variable. Monomials: the reference, and two laws. Polynomials of texts. Polynomials of texts: the document's. Polynomials: exponents, variables. -/
import Derived.Test.YtakaojkfipnfcaaGreatDoorG19
import Derived.Test.YtakaojkfipnfcaaGreatDoorG10
import Derived.Test.YtakaojkfipnfcaaGreatDoorG09
import Derived.RangeFuncNested
import Derived.RangeFuncBound
import Derived.RangeFuncCalls
import Derived.RangeFuncLeaves
import Derived.Shelf.Abstract
import Derived.Shelf.RegionOpen
import Derived.WalkKit
import Derived.OwnWalkIn
import Derived.TacticsInMore
import Derived.LoopNIn
import Derived.LoopIn
import Derived.Lib.Hide
import Derived.Test.YtakaojkfipnfcaaGreatDoorG18
set_option linter.unusedVariables false
set_option linter.unusedSimpArgs false
set_option maxRecDepth 100000
set_option maxHeartbeats 4000000
namespace Go.Proofs.YtakaojkfipnfcaaGreatDoor.Lv
open Go Go.RowKit
theorem limb_byteI (n i : Nat) : IntKind.u8.wrap ((((limbs n).getD (i / 4) 0 : Nat) : Int).fdiv ((2 ^ (8 * ((i % 4 : Nat) : Int)).toNat : Nat) : Int)) = ((n / 256 ^ i % 256 : Nat) : Int):=by
  have e : (8 * ((i % 4 : Nat) : Int)).toNat = 8 * (i % 4):=by omega
  rw [e,wrap_u8',Int.fdiv_eq_ediv_of_nonneg _ (Int.natCast_nonneg _),← limb_byte]
  rfl
theorem nby_row {n i j : Nat} (hi : i < nby n) (hj : j < nby n) : (if j = ((nby n : Int) - 1 - (i : Int)).toNat then .int .u8 ((n / 256 ^ i % 256 : Nat) : Int) else nbR n (nby n) i j) = nbR n (nby n) (i + 1) j:=by
  rw [show ((nby n : Int) - 1 - (i : Int)).toNat = nby n - 1 - i by omega]
  exact nbR_set hi hj
theorem nat_Bytes {n : Nat} (hn : nb n < 60000000) : C E 143 [natD n] (.str (natB n)):=by
  refine CG_intro Tryz.func143 rfl (by kernel_rfl) rfl (by kernel_rfl) (by kernel_rfl) rfl ?_
  have hB:=nat_Bits (n:=n) (by omega)
  have hle:=nby_le (n:=n) (Nat.le_refl _)
  have hnb:=(nb_nbit (n:=n) (k:=nb n)).1 (Nat.le_refl _)
  have hk : IntKind.i64.wrap (((nbit n : Int) + 7).tdiv 8) = (nby n : Int):=by
    have : ((nbit n : Int) + 7).tdiv 8 = (nby n : Int):=by rw [Int.tdiv_eq_ediv_of_nonneg (by omega)];unfold nby;omega
    rw [this,wrap_i64 (by omega)]
  simp (disch:=first|exact dd|fail) only [go_sem,seval]
  refine cA hB ?_
  simp (disch:=first|exact dd|fail) only [go_sem,seval,hk]
  refine ⟨by omega,by omega,by omega, ?_⟩
  refine AL.of (fun i : Nat => i ≤ nby n) (fun i => nby n - i) (fun i => [(1, .ad 0 0),(3, .sl 1 0 0 (nby n)),(10, .sl 1 0 0 (nby n)),(11, .int .i64 (nby n)),(12, .int .i64 i)]) (fun i => [(1, .row false 0 false 1 (nby n) (nbR n (nby n) i)),(0, .var true 1 (natD n))]) 0 (Nat.zero_le _) ?_ ?_ ?_ ?_
  · simp (disch:=first|exact dd|fail) only [go_sem,seval]
  · simp (disch:=first|exact dd|fail) only [go_sem,seval]
    exact fun i hi => Le.of_eq (by unfold nbR;rw [if_neg (by omega)];rfl)
  · intro x _;simp (disch:=first|exact dd|fail) only [go_sem,seval]
  intro i hi
  by_cases hil : i = nby n
  · subst hil
    simp (disch:=first|exact dd|fail) only [go_sem,seval]
    rw [bstr_of (l:=natB n) rfl (natB_len n).symm (nbR_fin n)]
    simp (disch:=first|exact dd|fail) only [go_sem,seval]
  · have e4 : IntKind.i64.wrap ((i : Int).tdiv 4) = ((i / 4 : Nat) : Int):=by
      rw [Int.tdiv_eq_ediv_of_nonneg (by omega),wrap_i64 (by omega)];omega
    have e5 : (i : Int).tmod 4 = ((i % 4 : Nat) : Int):=by
      rw [Int.tmod_eq_emod_of_nonneg (by omega)];omega
    have hlim : i / 4 < (limbs n).length:=by
      have : nb n = (limbs n).length:=rfl
      omega
    have e6:=limb_byteI n i
    simp (disch:=first|exact dd|fail) only [go_sem,seval,natD,u32s,e4,e5,e6]
    refine ⟨i + 1,by show i + 1 ≤ nby n;omega,by show nby n - (i + 1) < nby n - i;omega, ?_, ?_⟩
    · simp (disch:=first|exact dd|fail) only [go_sem,seval]
      exact LeV.refl _
    · simp (disch:=first|exact dd|fail) only [go_sem,seval]
      exact fun j hj => Le.of_eq (nby_row (by omega) hj)
theorem ref_NatBytes {n : Nat} (hn : nb n < 60000000) : C E 146 [nD n] (.str (natB n)):=by
  refine CG_intro Tryz.func146 rfl (by kernel_rfl) rfl (by kernel_rfl) (by kernel_rfl) rfl ?_
  have hB:=ref_Bits (n:=n) (by omega)
  have hle:=nby_le (n:=n) (Nat.le_refl _)
  have hnb:=(nb_nbit (n:=n) (k:=nb n)).1 (Nat.le_refl _)
  have hk : IntKind.i64.wrap (((nbit n : Int) + 7).tdiv 8) = (nby n : Int):=by
    have : ((nbit n : Int) + 7).tdiv 8 = (nby n : Int):=by rw [Int.tdiv_eq_ediv_of_nonneg (by omega)];unfold nby;omega
    rw [this,wrap_i64 (by omega)]
  simp (disch:=first|exact dd|fail) only [go_sem,seval]
  refine cA hB ?_
  simp (disch:=first|exact dd|fail) only [go_sem,seval,hk]
  refine ⟨by omega,by omega,by omega, ?_⟩
  refine AL.of (fun i : Nat => i ≤ nby n) (fun i => nby n - i) (fun i => [(0,nD n),(3, .int .i64 (nby n)),(4, .sl 0 0 0 (nby n)),(5, .int .i64 i)]) (fun i => [(0, .row false 0 false 1 (nby n) (nbR n (nby n) i))]) 0 (Nat.zero_le _) ?_ ?_ ?_ ?_
  · simp (disch:=first|exact dd|fail) only [go_sem,seval]
  · simp (disch:=first|exact dd|fail) only [go_sem,seval]
    exact fun i hi => Le.of_eq (by unfold nbR;rw [if_neg (by omega)];rfl)
  · intro x _;simp (disch:=first|exact dd|fail) only [go_sem,seval]
  intro i hi
  by_cases hil : i = nby n
  · subst hil
    simp (disch:=first|exact dd|fail) only [go_sem,seval]
    rw [bstr_of (l:=natB n) rfl (natB_len n).symm (nbR_fin n)]
    simp (disch:=first|exact dd|fail) only [go_sem,seval]
  · have e4 : IntKind.i64.wrap ((i : Int).tdiv 4) = ((i / 4 : Nat) : Int):=by
      rw [Int.tdiv_eq_ediv_of_nonneg (by omega),wrap_i64 (by omega)];omega
    have e5 : (i : Int).tmod 4 = ((i % 4 : Nat) : Int):=by
      rw [Int.tmod_eq_emod_of_nonneg (by omega)];omega
    have hlim : i / 4 < (limbs n).length:=by
      have : nb n = (limbs n).length:=rfl
      omega
    have e6:=limb_byteI n i
    simp (disch:=first|exact dd|fail) only [go_sem,seval,nD,u32s,e4,e5,e6]
    refine ⟨i + 1,by show i + 1 ≤ nby n;omega,by show nby n - (i + 1) < nby n - i;omega, ?_, ?_⟩
    · simp (disch:=first|exact dd|fail) only [go_sem,seval]
      exact LeV.refl _
    · simp (disch:=first|exact dd|fail) only [go_sem,seval]
      exact fun j hj => Le.of_eq (nby_row (by omega) hj)
def zB (z : Int) : List UInt8:=vput (2 * nby z.natAbs + if z < 0 then 1 else 0) ++ natB z.natAbs
theorem zB_neg {z : Int} (h : z < 0) : zB z = vput (2 * nby z.natAbs + 1) ++ natB z.natAbs:=by unfold zB;rw [if_pos h]
theorem zB_pos {z : Int} (h : ¬ z < 0) : zB z = vput (2 * nby z.natAbs) ++ natB z.natAbs:=by unfold zB;rw [if_neg h];rfl
theorem zB_len {z : Int} (hz : zb z < 60000000) : (zB z).length ≤ 10 + 4 * zb z:=by
  have hle:=nby_le (n:=z.natAbs) (Nat.le_refl _)
  unfold zb at *
  by_cases h : z < 0
  · have hv:=vput_len (2 * nby z.natAbs + 1) (by omega)
    rw [zB_neg h,List.length_append,natB_len]
    omega
  · have hv:=vput_len (2 * nby z.natAbs) (by omega)
    rw [zB_pos h,List.length_append,natB_len]
    omega
theorem vint_PutInt {z : Int} (hz : zb z < 60000000) : C E 99 [zD z] (.str (zB z)):=by
  refine CG_intro Tryz.func99 rfl (by kernel_rfl) rfl (by kernel_rfl) (by kernel_rfl) rfl ?_
  have hA:=whole_Abs z
  have hB:=nat_Bytes (n:=z.natAbs) hz
  have hS:=whole_Sign (z:=z) (by unfold zb at hz;omega)
  have hle:=nby_le (n:=z.natAbs) (Nat.le_refl _)
  have hnl:=natB_len z.natAbs
  unfold zb at hz
  simp (disch:=first|exact dd|fail) only [go_sem,seval]
  refine cA hA ?_
  simp (disch:=first|exact dd|fail) only [go_sem,seval]
  refine cA hB ?_
  simp (disch:=first|exact dd|fail) only [go_sem,seval,hnl]
  refine cA hS ?_
  simp (disch:=first|exact dd|fail) only [go_sem,seval]
  by_cases h : z < 0
  · have hp:=vint_Put (2 * nby z.natAbs + 1) (by omega)
    have hv:=vput_len (2 * nby z.natAbs + 1) (by omega)
    have hs : sgI z 0 = -1:=sgI_lt h
    simp (disch:=first|exact dd|fail) only [go_sem,seval,hs]
    refine cA hp ?_
    simp (disch:=first|exact dd|fail) only [go_sem,seval]
    rw [zB_neg h]
    try exact LeV.refl _
  · have hp:=vint_Put (2 * nby z.natAbs) (by omega)
    have hv:=vput_len (2 * nby z.natAbs) (by omega)
    have hs : ¬ sgI z 0 < 0:=by
      have:=sgI_cases z 0
      omega
    simp (disch:=first|exact dd|fail) only [go_sem,seval,hs]
    refine cA hp ?_
    simp (disch:=first|exact dd|fail) only [go_sem,seval]
    rw [zB_pos h]
    try exact LeV.refl _
theorem r2_PutInt {z : Int} (hz : zb z < 60000000) : C E 103 [iD z] (.str (zB z)):=by
  refine CG_intro Tryz.func103 rfl (by kernel_rfl) rfl (by kernel_rfl) (by kernel_rfl) rfl ?_
  have hB:=ref_NatBytes (n:=z.natAbs) hz
  have hS:=ref_Sign (z:=z) (by unfold zb at hz ⊢;omega)
  have hle:=nby_le (n:=z.natAbs) (Nat.le_refl _)
  have hnl:=natB_len z.natAbs
  unfold zb at hz
  simp (disch:=first|exact dd|fail) only [go_sem,seval,iD]
  refine cA hB ?_
  simp (disch:=first|exact dd|fail) only [go_sem,seval,hnl]
  refine cA hS ?_
  simp (disch:=first|exact dd|fail) only [go_sem,seval]
  by_cases h : z < 0
  · have hp:=r2_Put (2 * nby z.natAbs + 1) (by omega)
    have hv:=vput_len (2 * nby z.natAbs + 1) (by omega)
    have hs : sgI z 0 = -1:=sgI_lt h
    simp (disch:=first|exact dd|fail) only [go_sem,seval,hs]
    refine cA hp ?_
    simp (disch:=first|exact dd|fail) only [go_sem,seval]
    rw [zB_neg h]
    try exact LeV.refl _
  · have hp:=r2_Put (2 * nby z.natAbs) (by omega)
    have hv:=vput_len (2 * nby z.natAbs) (by omega)
    have hs : ¬ sgI z 0 < 0:=by
      have:=sgI_cases z 0
      omega
    simp (disch:=first|exact dd|fail) only [go_sem,seval,hs]
    refine cA hp ?_
    simp (disch:=first|exact dd|fail) only [go_sem,seval]
    rw [zB_pos h]
    try exact LeV.refl _
def qB (q : Rat) : List UInt8:=zB q.num ++ zB (q.den : Int)
theorem qB_len {q : Rat} (hq : qb 40000000 q) : (qB q).length ≤ 20 + 4 * (zb q.num + nb q.den):=by
  have h1:=zB_len (z:=q.num) (by have:=hq.1;omega)
  have h2:=zB_len (z:=(q.den : Int)) (by have:=hq.2;unfold zb;rw [Int.natAbs_natCast];omega)
  have e : zb (q.den : Int) = nb q.den:=by unfold zb;rw [Int.natAbs_natCast]
  unfold qB
  rw [List.length_append]
  omega
theorem vint_PutRat {q : Rat} (hq : qb 40000000 q) : C E 55 [qD q] (.str (qB q)):=by
  refine CG_intro Tryz.func55 rfl (by kernel_rfl) rfl (by kernel_rfl) (by kernel_rfl) rfl ?_
  have hN:=rat_Num q
  have hD:=rat_Den (hq.qs (by omega))
  have h1:=vint_PutInt (z:=q.num) (by have:=hq.1;omega)
  have l1:=zB_len (z:=q.num) (by have:=hq.1;omega)
  have l2:=zB_len (z:=(q.den : Int)) (by have:=hq.2;unfold zb;rw [Int.natAbs_natCast];omega)
  have l3 : zb (q.den : Int) = nb q.den:=by unfold zb;rw [Int.natAbs_natCast]
  have l4:=hq.1
  have l5:=hq.2
  have h2:=vint_PutInt (z:=(q.den : Int)) (by have:=hq.2;unfold zb;rw [Int.natAbs_natCast];omega)
  simp (disch:=first|exact dd|fail) only [go_sem,seval]
  refine cL hN ?_
  simp (disch:=first|exact dd|fail) only [go_sem,seval]
  refine cL h1 ?_
  simp (disch:=first|exact dd|fail) only [go_sem,seval]
  refine cL hD ?_
  simp (disch:=first|exact dd|fail) only [go_sem,seval]
  refine cL h2 ?_
  simp (disch:=first|exact dd|fail) only [go_sem,seval]
  exact LeV.refl _
theorem r2_PutRat {q : Rat} (hq : qb 40000000 q) : C E 59 [rqD q] (.str (qB q)):=by
  refine CG_intro Tryz.func59 rfl (by kernel_rfl) rfl (by kernel_rfl) (by kernel_rfl) rfl ?_
  have hD:=ref_Den (hq.qs (by omega))
  have h1:=r2_PutInt (z:=q.num) (by have:=hq.1;omega)
  have l1:=zB_len (z:=q.num) (by have:=hq.1;omega)
  have l2:=zB_len (z:=(q.den : Int)) (by have:=hq.2;unfold zb;rw [Int.natAbs_natCast];omega)
  have l3 : zb (q.den : Int) = nb q.den:=by unfold zb;rw [Int.natAbs_natCast]
  have l4:=hq.1
  have l5:=hq.2
  have h2:=r2_PutInt (z:=(q.den : Int)) (by have:=hq.2;unfold zb;rw [Int.natAbs_natCast];omega)
  simp (disch:=first|exact dd|fail) only [go_sem,seval,rqD]
  refine cL h1 ?_
  simp (disch:=first|exact dd|fail) only [go_sem,seval]
  refine cL hD ?_
  simp (disch:=first|exact dd|fail) only [go_sem,seval]
  refine cL h2 ?_
  simp (disch:=first|exact dd|fail) only [go_sem,seval]
  exact LeV.refl _
theorem isNaN_int (x : Int) : C E 179 [.int .i64 x] (.bool false):=by
  refine CG_intro Tryz.func179 rfl (by kernel_rfl) rfl (by kernel_rfl) (by kernel_rfl) rfl ?_
  have h : (x != x) = false:=by simp
  simp (disch:=first|exact dd|fail) only [go_sem,seval,h]
theorem cmp_int (x y : Int) : C E 153 [.int .i64 x, .int .i64 y] (.int .i64 (if x < y then -1 else if x > y then 1 else 0)):=by
  refine CG_intro Tryz.func153 rfl (by kernel_rfl) rfl (by kernel_rfl) (by kernel_rfl) rfl ?_
  simp (disch:=first|exact dd|fail) only [go_sem,seval]
  refine callC (isNaN_int x) (LesV.refl _) rfl ?_
  simp (disch:=first|exact dd|fail) only [go_sem,seval]
  refine callC (isNaN_int y) (LesV.refl _) rfl ?_
  by_cases h1 : x < y
  · simp (disch:=first|exact dd|fail) only [go_sem,seval,h1]
  · by_cases h2 : x > y
    · simp (disch:=first|exact dd|fail) only [go_sem,seval,h1,h2]
    · simp (disch:=first|exact dd|fail) only [go_sem,seval,h1,h2]
def monoD (a b c : Nat) : D:=.agg [.int .u8 a, .int .u8 b, .int .u8 c]
theorem mono_Degree {a b c : Nat} (ha : a < 256) (hb : b < 256) (hc : c < 256) : C E 154 [monoD a b c] (.int .i64 ((a + b + c : Nat) : Int)):=by
  refine CG_intro Tryz.func154 rfl (by kernel_rfl) rfl (by kernel_rfl) (by kernel_rfl) rfl ?_
  simp (disch:=first|exact dd|fail) only [go_sem,seval,monoD]
  refine AL.step ?_
  simp (disch:=first|exact dd|fail) only [go_sem,seval,monoD]
  refine AL.step ?_
  simp (disch:=first|exact dd|fail) only [go_sem,seval,monoD]
  refine AL.step ?_
  simp (disch:=first|exact dd|fail) only [go_sem,seval,monoD]
  refine AL.step ?_
  simp (disch:=first|exact dd|fail) only [go_sem,seval,monoD]
  refine LeV.of_eq ?_
  congr 1
  omega
theorem isNaN_u8 (x : Int) : C E 196 [.int .u8 x] (.bool false):=by
  refine CG_intro Tryz.func196 rfl (by kernel_rfl) rfl (by kernel_rfl) (by kernel_rfl) rfl ?_
  have h : (x != x) = false:=by simp
  simp (disch:=first|exact dd|fail) only [go_sem,seval,h]
theorem cmp_u8 (x y : Int) : C E 180 [.int .u8 x, .int .u8 y] (.int .i64 (if x < y then -1 else if x > y then 1 else 0)):=by
  refine CG_intro Tryz.func180 rfl (by kernel_rfl) rfl (by kernel_rfl) (by kernel_rfl) rfl ?_
  simp (disch:=first|exact dd|fail) only [go_sem,seval]
  refine callC (isNaN_u8 x) (LesV.refl _) rfl ?_
  simp (disch:=first|exact dd|fail) only [go_sem,seval]
  refine callC (isNaN_u8 y) (LesV.refl _) rfl ?_
  by_cases h1 : x < y
  · simp (disch:=first|exact dd|fail) only [go_sem,seval,h1]
  · by_cases h2 : x > y
    · simp (disch:=first|exact dd|fail) only [go_sem,seval,h1,h2]
    · simp (disch:=first|exact dd|fail) only [go_sem,seval,h1,h2]
def sg (x y : Int) : Int:=if x < y then -1 else if x > y then 1 else 0
def lex : List (Int × Int) → Int
  | [] => 0
  | (x,y) :: r => if sg x y ≠ 0 then sg x y else lex r
theorem slices_Compare (a b c a' b' c' : Nat) : CG E 155 [.vs 0 0 1 3, .vs 1 0 1 3] [(0, .var true 3 (monoD a b c)),(1, .var true 3 (monoD a' b' c'))]
    (.int .i64 (lex [(a,a'),(b,b'),(c,c')])) [(0, .var true 3 (monoD a b c)),(1, .var true 3 (monoD a' b' c'))]:=by
  refine CG_intro Tryz.func155 rfl (by kernel_rfl) rfl (by kernel_rfl) (by kernel_rfl) rfl ?_
  simp (disch:=first|exact dd|fail) only [go_sem,seval,monoD]
  refine AL.step ?_
  simp (disch:=first|exact dd|fail) only [go_sem,seval,monoD]
  refine callC (cmp_u8 _ _) (LesV.refl _) rfl ?_
  rw [show (if ((a : Nat) : Int) < (a' : Nat) then -1 else if ((a : Nat) : Int) > (a' : Nat) then 1 else 0) = sg a a' from rfl]
  by_cases h1 : sg a a' = 0
  case neg =>
    have hb : (sg a a' != 0) = true:=by simpa using h1
    simp (disch:=first|exact dd|fail) only [go_sem,seval,monoD,hb]
    refine LeV.of_eq ?_
    simp [lex,h1]
  have b1 : (sg a a' != 0) = false:=by simpa using h1
  simp (disch:=first|exact dd|fail) only [go_sem,seval,monoD,b1]
  refine AL.step ?_
  simp (disch:=first|exact dd|fail) only [go_sem,seval,monoD]
  refine callC (cmp_u8 _ _) (LesV.refl _) rfl ?_
  rw [show (if ((b : Nat) : Int) < (b' : Nat) then -1 else if ((b : Nat) : Int) > (b' : Nat) then 1 else 0) = sg b b' from rfl]
  by_cases h2 : sg b b' = 0
  case neg =>
    have hb : (sg b b' != 0) = true:=by simpa using h2
    simp (disch:=first|exact dd|fail) only [go_sem,seval,monoD,hb]
    refine LeV.of_eq ?_
    simp [lex,h1,h2]
  have b2 : (sg b b' != 0) = false:=by simpa using h2
  simp (disch:=first|exact dd|fail) only [go_sem,seval,monoD,b2]
  refine AL.step ?_
  simp (disch:=first|exact dd|fail) only [go_sem,seval,monoD]
  refine callC (cmp_u8 _ _) (LesV.refl _) rfl ?_
  rw [show (if ((c : Nat) : Int) < (c' : Nat) then -1 else if ((c : Nat) : Int) > (c' : Nat) then 1 else 0) = sg c c' from rfl]
  by_cases h3 : sg c c' = 0
  case neg =>
    have hb : (sg c c' != 0) = true:=by simpa using h3
    simp (disch:=first|exact dd|fail) only [go_sem,seval,monoD,hb]
    refine LeV.of_eq ?_
    simp [lex,h1,h2,h3]
  have b3 : (sg c c' != 0) = false:=by simpa using h3
  simp (disch:=first|exact dd|fail) only [go_sem,seval,monoD,b3]
  refine AL.step ?_
  simp (disch:=first|exact dd|fail) only [go_sem,seval,monoD]
  refine LeV.of_eq ?_
  simp [lex,h1,h2,h3]
theorem cmp_Or (x y : Int) : C E 152 [.ro false 1 2 fun i => .int .i64 (if i = 0 then x else y)] (.int .i64 (if x ≠ 0 then x else y)):=by
  refine CG_intro Tryz.func152 rfl (by kernel_rfl) rfl (by kernel_rfl) (by kernel_rfl) rfl ?_
  simp (disch:=first|exact dd|fail) only [go_sem,seval]
  refine AL.step ?_
  by_cases h : x = 0
  case neg =>
    have hb : (x != 0) = true:=by simpa using h
    simp (disch:=first|exact dd|fail) only [go_sem,seval,hb]
    exact LeV.of_eq (by simp [h])
  have hb : (x != 0) = false:=by simpa using h
  simp (disch:=first|exact dd|fail) only [go_sem,seval,hb]
  refine AL.step ?_
  by_cases h' : y = 0
  case neg =>
    have hb : (y != 0) = true:=by simpa using h'
    simp (disch:=first|exact dd|fail) only [go_sem,seval,hb]
    exact LeV.of_eq (by simp [h])
  have hb : (y != 0) = false:=by simpa using h'
  simp (disch:=first|exact dd|fail) only [go_sem,seval,hb]
  refine AL.step ?_
  simp (disch:=first|exact dd|fail) only [go_sem,seval]
  exact LeV.of_eq (by simp [h,h'])
def mcmp (a b c a' b' c' : Nat) : Int:=if sg (a + b + c : Nat) (a' + b' + c' : Nat) ≠ 0 then sg (a + b + c : Nat) (a' + b' + c' : Nat) else lex [(a,a'),(b,b'),(c,c')]
theorem mono_Cmp {a b c a' b' c' : Nat} (ha : a < 256) (hb : b < 256) (hc : c < 256) (ha' : a' < 256) (hb' : b' < 256) (hc' : c' < 256) : C E 110 [monoD a b c,monoD a' b' c'] (.int .i64 (mcmp a b c a' b' c')):=by
  refine CG_intro (E:=E.lim fun g => g == 155) Tryz.func110 rfl (by kernel_rfl) rfl (by kernel_rfl) (by kernel_rfl) rfl ?_
  simp (disch:=first|exact dd|fail) only [go_sem,seval,monoD]
  refine callCl (mono_Degree ha hb hc) (LesV.refl _) rfl ?_
  simp (disch:=first|exact dd|fail) only [go_sem,seval,monoD]
  refine callCl (mono_Degree ha' hb' hc') (LesV.refl _) rfl ?_
  simp (disch:=first|exact dd|fail) only [go_sem,seval,monoD]
  refine callCl (cmp_int _ _) (LesV.refl _) rfl ?_
  simp (disch:=first|exact dd|fail) only [go_sem,seval,monoD]
  refine callGl [0,1] (slices_Compare a b c a' b' c') rfl (by simp (disch:=first|exact dd|fail) only [go_sem,seval]) ?_ ?_ ?_
  · simp (disch:=first|exact dd|fail) only [go_sem,seval,monoD]
  · simp (disch:=first|exact dd|fail) only [go_sem,seval,monoD]
  simp (disch:=first|exact dd|fail) only [go_sem,seval,monoD]
  refine callCl (cmp_Or (sg (a + b + c : Nat) (a' + b' + c' : Nat)) (lex [(a,a'),(b,b'),(c,c')])) ?_ rfl ?_
  · simp (disch:=first|exact dd|fail) only [go_sem,seval]
    refine LesV.cons (LeV.ro rfl fun i hi => ?_) LesV.nil
    obtain rfl | rfl : i = 0 ∨ i = 1:=by omega
    · exact Le.of_eq rfl
    · exact Le.of_eq rfl
  simp (disch:=first|exact dd|fail) only [go_sem,seval]
  exact LeV.of_eq rfl
def fit (a b c a' b' c' : Nat) : Bool:=decide (a + a' ≤ 255 ∧ b + b' ≤ 255 ∧ c + c' ≤ 255)
def key (a b c : Nat) : Int:=((a : Int) + b + c) * 16777216 + a * 65536 + b * 256 + c
theorem sg_lt {x y : Int} (h : x < y) : sg x y = -1:=by simp [sg,h]
theorem sg_gt {x y : Int} (h : y < x) : sg x y = 1:=by simp [sg,h,show ¬ x < y by omega]
theorem sg_eq (x : Int) : sg x x = 0:=by simp [sg]
theorem sg_cases (x y : Int) : (x < y ∧ sg x y = -1) ∨ (x = y ∧ sg x y = 0) ∨ (y < x ∧ sg x y = 1):=by
  rcases Int.lt_trichotomy x y with h | h | h
  · exact .inl ⟨h,sg_lt h⟩
  · subst h;exact .inr (.inl ⟨rfl,sg_eq x⟩)
  · exact .inr (.inr ⟨h,sg_gt h⟩)
section
variable {a b c a' b' c' x y z : Nat} (ha : a < 256) (hb : b < 256) (hc : c < 256) (ha' : a' < 256) (hb' : b' < 256) (hc' : c' < 256) (hx : x < 256) (hy : y < 256) (hz : z < 256)
include ha hb hc ha' hb' hc'
end
open Go Go.RowKit Go.Shelf
attribute [local go_sem] Oper.semAt_some
theorem bw_u8 : BWC Tryz.prog 191:=by
  refine ⟨by kernel_rfl,fun l bx N J Jx W hN hc0 hY h0 => ?_⟩
  obtain ⟨a0,cap0,hc0⟩:=hc0
  refine callsIn_of_wp Tryz.func191 rfl trivial ?_ rfl
  simp only [Tryz.ntmps191,List.size_toArray,List.length_cons,List.length_nil,Nat.reduceAdd,Nat.reduceSub,Array.replicate_succ,Array.replicate_zero,List.push_toArray,List.append_toArray,List.nil_append,List.cons_append]
  have hw : IntKind.i64.wrap ((N : Int) - 1) = (N : Int) - 1:=wrap_i64 (by omega)
  have hro : (WF none).round = none:=rfl
  have HY:=Lib.hid hY
  clear hY
  gi_wp2
  gi_loopw [3] (fun i wr => ∃ k : Nat,k ≤ N ∧ i = .int .i64 ((k : Int) - 1) ∧ J k wr) (fun i _ => (intOf i + 1).toNat)
  case atStart => exact ⟨N,Nat.le_refl _,rfl,h0⟩
  case round =>
    obtain ⟨k,hk,rfl,hJ⟩:=hrel
    clear hw
    cases k with
    | zero =>
      gi_wp2
      go_end0
      exact ⟨⟨_,rfl⟩, .inl hJ⟩
    | succ k =>
      obtain ⟨b,o,n,cap,x,hcx,hkn,hx,h1,fn,tmps,assign,body,hy,hR⟩:=HY.out k wr (by omega) hJ
      have e1 : ((k + 1 : Nat) : Int) - 1 = (k : Int):=by omega
      rw [e1]
      gi_wp2
      refine ⟨rfl,hR.mono ?_⟩
      rintro e W3 (⟨rfl,hJ3⟩ | ⟨rfl,hJx3⟩)
      · gi_wp2
        go_roundw
        case rel => exact ⟨k,by omega,rfl,hJ3⟩
        case measure => simp [intOf]
      · gi_wp2
        refine bodyPost_ret (results_none rfl _ _ _) rfl ?_
        exact ⟨⟨_,rfl⟩, .inr hJx3⟩
theorem backward_u8 (d : D) (hd : cl d = true) : CG E 169 [.vs 0 0 1 3] [(0, .var true 3 d)] (.fn 191 [.ad 1 0]) [(0, .var true 3 d),(1, .var false 1 (.vs 0 0 1 3))]:=by
  refine CG_intro Tryz.func169 rfl (by kernel_rfl) rfl (by kernel_rfl) (by kernel_rfl) rfl ?_
  simp (disch:=first|exact dd|fail) only [go_sem,seval,cl_imp _ _ d hd]
def vars (a b c : Nat) : Nat:=if c > 0 then 3 else if b > 0 then 2 else if a > 0 then 1 else 0
theorem mono_Vars {a b c : Nat} : C E 131 [monoD a b c] (.int .i64 (vars a b c)):=by
  refine CG_intro Tryz.func131 rfl (by kernel_rfl) rfl (by kernel_rfl) (by kernel_rfl) rfl ?_
  simp (disch:=first|exact dd|fail) only [go_sem,seval,monoD]
  refine callG [0] (backward_u8 (monoD a b c) rfl) rfl (by simp (disch:=first|exact dd|fail) only [go_sem,seval]) ?_ ?_ ?_
  · simp (disch:=first|exact dd|fail) only [go_sem,seval]
  · simp (disch:=first|exact dd|fail) only [go_sem,seval,monoD]
  simp (disch:=first|exact dd|fail) only [go_sem,seval,monoD]
  refine AB.of 191 3 (fun k : Nat => k ≤ 3 ∧ (k ≤ 2 → c = 0) ∧ (k ≤ 1 → b = 0) ∧ (k ≤ 0 → a = 0)) (fun k => k) (fun _ => [(1, .ad 0 0),(2, .ad 1 0),(6, .fn 191 [.ad 3 0])])
    (fun _ => [(3, .var false 1 (.vs 0 0 1 3)),(1, .var false 1 (.int .i64 0)),(0, .var true 3 (.agg [.int .u8 a, .int .u8 b, .int .u8 c]))]) 3 bw_u8 ⟨by omega,by omega,by omega,by omega⟩ ?_ ?_ ?_ (y:=.vs 0 0 1 3) ?_ ?_ (by omega) ?_ ?_ ?_
  · simp (disch:=first|exact dd|fail) only [go_sem,seval,monoD]
  · simp (disch:=first|exact dd|fail) only [go_sem,seval,monoD]
  · simp (disch:=first|exact dd|fail) only [go_sem,seval,monoD]
  · simp (disch:=first|exact dd|fail) only [go_sem,seval,monoD]
  · simp (disch:=first|exact dd|fail) only [go_sem,seval,monoD]
  · intro x' _;simp (disch:=first|exact dd|fail) only [go_sem,seval,monoD]
  · rintro x' ⟨_,h2,h3,h4⟩ rfl
    simp (disch:=first|exact dd|fail) only [go_sem,seval,monoD]
    refine LeV.of_eq ?_
    simp [vars,h2,h3,h4]
  · rintro x' k ⟨h1,h2,h3,h4⟩ hk rfl
    have hk3 : k = 0 ∨ k = 1 ∨ k = 2:=by omega
    rcases hk3 with rfl | rfl | rfl
    · by_cases h : (a : Int) > 0
      · refine ⟨.vs 0 0 1 3, .int .u8 a,rfl,rfl, ?_⟩
        simp (disch:=first|exact dd|fail) only [go_sem,seval,monoD,h]
        refine LeV.of_eq ?_
        have e1:=h2 (by omega);have e2:=h3 (by omega)
        have : 0 < a:=by omega
        simp [vars,e1,e2,this]
      · refine ⟨.vs 0 0 1 3, .int .u8 a,rfl,rfl, ?_⟩
        simp (disch:=first|exact dd|fail) only [go_sem,seval,monoD,h]
        refine BGo.of 0 (by simp (disch:=first|exact dd|fail) only [go_sem,seval]) ⟨by omega,fun _ => h2 (by omega),fun _ => h3 (by omega),by omega⟩ rfl (by simp [mx]) ?_ ?_
        · simp (disch:=first|exact dd|fail) only [go_sem,seval,monoD]
        · simp (disch:=first|exact dd|fail) only [go_sem,seval,monoD]
    · by_cases h : (b : Int) > 0
      · refine ⟨.vs 0 0 1 3, .int .u8 b,rfl,rfl, ?_⟩
        simp (disch:=first|exact dd|fail) only [go_sem,seval,monoD,h]
        refine LeV.of_eq ?_
        have e1:=h2 (by omega)
        have : 0 < b:=by omega
        simp [vars,e1,this]
      · refine ⟨.vs 0 0 1 3, .int .u8 b,rfl,rfl, ?_⟩
        simp (disch:=first|exact dd|fail) only [go_sem,seval,monoD,h]
        refine BGo.of 1 (by simp (disch:=first|exact dd|fail) only [go_sem,seval]) ⟨by omega,fun _ => h2 (by omega),by omega,by omega⟩ rfl (by simp [mx]) ?_ ?_
        · simp (disch:=first|exact dd|fail) only [go_sem,seval,monoD]
        · simp (disch:=first|exact dd|fail) only [go_sem,seval,monoD]
    · by_cases h : (c : Int) > 0
      · refine ⟨.vs 0 0 1 3, .int .u8 c,rfl,rfl, ?_⟩
        simp (disch:=first|exact dd|fail) only [go_sem,seval,monoD,h]
        refine LeV.of_eq ?_
        have : 0 < c:=by omega
        simp [vars,this]
      · refine ⟨.vs 0 0 1 3, .int .u8 c,rfl,rfl, ?_⟩
        simp (disch:=first|exact dd|fail) only [go_sem,seval,monoD,h]
        refine BGo.of 2 (by simp (disch:=first|exact dd|fail) only [go_sem,seval]) ⟨by omega,by omega,by omega,by omega⟩ rfl (by simp [mx]) ?_ ?_
        · simp (disch:=first|exact dd|fail) only [go_sem,seval,monoD]
        · simp (disch:=first|exact dd|fail) only [go_sem,seval,monoD]
theorem ref_Degree {a b c : Nat} (ha : a < 256) (hb : b < 256) (hc : c < 256) : C E 164 [monoD a b c] (.int .i64 ((a + b + c : Nat) : Int)):=by
  refine CG_intro Tryz.func164 rfl (by kernel_rfl) rfl (by kernel_rfl) (by kernel_rfl) rfl ?_
  simp (disch:=first|exact dd|fail) only [go_sem,seval,monoD]
  exact LeV.of_eq (by congr 1)
theorem ref_MonoCmp {a b c a' b' c' : Nat} (ha : a < 256) (hb : b < 256) (hc : c < 256) (ha' : a' < 256) (hb' : b' < 256) (hc' : c' < 256) : C E 126 [monoD a b c,monoD a' b' c'] (.int .i64 (mcmp a b c a' b' c')):=by
  refine CG_intro Tryz.func126 rfl (by kernel_rfl) rfl (by kernel_rfl) (by kernel_rfl) rfl ?_
  simp (disch:=first|exact dd|fail) only [go_sem,seval,monoD]
  refine callCl (ref_Degree ha hb hc) (LesV.refl _) rfl ?_
  simp (disch:=first|exact dd|fail) only [go_sem,seval,monoD]
  refine callCl (ref_Degree ha' hb' hc') (LesV.refl _) rfl ?_
  unfold mcmp
  generalize hd : ((a + b + c : Nat) : Int) = d
  generalize hd' : ((a' + b' + c' : Nat) : Int) = d'
  have one : ∀ x y : Int,x < y → ¬ y < x:=by intro x y;omega
  rcases sg_cases d d' with ⟨h,e⟩ | ⟨h,e⟩ | ⟨h,e⟩
  · have hn : (d != d') = true:=by simp;omega
    simp (disch:=first|exact dd|fail) only [go_sem,seval,monoD,hn]
    rw [← hd]
    refine callCl (ref_Degree ha hb hc) (LesV.refl _) rfl ?_
    simp (disch:=first|exact dd|fail) only [go_sem,seval,monoD]
    refine callCl (ref_Degree ha' hb' hc') (LesV.refl _) rfl ?_
    rw [hd,hd']
    simp (disch:=first|exact dd|fail) only [go_sem,seval,monoD,h]
    exact LeV.of_eq (by simp [e])
  · subst h
    rw [e]
    simp (disch:=first|exact dd|fail) only [go_sem,seval,monoD,show (d != d) = false by simp]
    refine AL.step ?_
    rcases sg_cases (a : Int) a' with ⟨h1,e1⟩ | ⟨h1,e1⟩ | ⟨h1,e1⟩
    · simp (disch:=first|exact dd|fail) only [go_sem,seval,monoD,h1]
      exact LeV.of_eq (by simp [lex,e1])
    · simp (disch:=first|exact dd|fail) only [go_sem,seval,monoD,show ¬ (a : Int) < a' by omega,show ¬ (a : Int) > a' by omega]
      refine AL.step ?_
      rcases sg_cases (b : Int) b' with ⟨h2,e2⟩ | ⟨h2,e2⟩ | ⟨h2,e2⟩
      · simp (disch:=first|exact dd|fail) only [go_sem,seval,monoD,h2]
        exact LeV.of_eq (by simp [lex,e1,e2])
      · simp (disch:=first|exact dd|fail) only [go_sem,seval,monoD,show ¬ (b : Int) < b' by omega,show ¬ (b : Int) > b' by omega]
        refine AL.step ?_
        rcases sg_cases (c : Int) c' with ⟨h3,e3⟩ | ⟨h3,e3⟩ | ⟨h3,e3⟩
        · simp (disch:=first|exact dd|fail) only [go_sem,seval,monoD,h3]
          exact LeV.of_eq (by first | (exfalso;omega) | simp [lex,e1,e2,e3])
        · simp (disch:=first|exact dd|fail) only [go_sem,seval,monoD,show ¬ (c : Int) < c' by omega,show ¬ (c : Int) > c' by omega]
          refine AL.step ?_
          simp (disch:=first|exact dd|fail) only [go_sem,seval,monoD]
          exact LeV.of_eq (by first | (exfalso;omega) | simp [lex,e1,e2,e3])
        · simp (disch:=first|exact dd|fail) only [go_sem,seval,monoD,show ¬ (c : Int) < c' by omega,show (c : Int) > c' by omega]
          exact LeV.of_eq (by first | (exfalso;omega) | simp [lex,e1,e2,e3])
      · simp (disch:=first|exact dd|fail) only [go_sem,seval,monoD,show ¬ (b : Int) < b' by omega,show (b : Int) > b' by omega]
        exact LeV.of_eq (by simp [lex,e1,e2])
    · simp (disch:=first|exact dd|fail) only [go_sem,seval,monoD,show ¬ (a : Int) < a' by omega,show (a : Int) > a' by omega]
      exact LeV.of_eq (by simp [lex,e1])
  · have hn : (d != d') = true:=by simp;omega
    simp (disch:=first|exact dd|fail) only [go_sem,seval,monoD,hn]
    rw [← hd]
    refine callCl (ref_Degree ha hb hc) (LesV.refl _) rfl ?_
    simp (disch:=first|exact dd|fail) only [go_sem,seval,monoD]
    refine callCl (ref_Degree ha' hb' hc') (LesV.refl _) rfl ?_
    rw [hd,hd']
    simp (disch:=first|exact dd|fail) only [go_sem,seval,monoD,show ¬ d < d' by omega]
    exact LeV.of_eq (by simp [e])
abbrev Mn:=UInt8 × UInt8 × UInt8
def mD (m : Mn) : D:=monoD m.1.toNat m.2.1.toNat m.2.2.toNat
def mC (x y : Mn) : Int:=mcmp x.1.toNat x.2.1.toNat x.2.2.toNat y.1.toNat y.2.1.toNat y.2.2.toNat
theorem mn_Cmp (x y : Mn) : C E 110 [mD x,mD y] (.int .i64 (mC x y)):=mono_Cmp (UInt8.toNat_lt _) (UInt8.toNat_lt _) (UInt8.toNat_lt _) (UInt8.toNat_lt _) (UInt8.toNat_lt _) (UInt8.toNat_lt _)
theorem ref_mnCmp (x y : Mn) : C E 126 [mD x,mD y] (.int .i64 (mC x y)):=ref_MonoCmp (UInt8.toNat_lt _) (UInt8.toNat_lt _) (UInt8.toNat_lt _) (UInt8.toNat_lt _) (UInt8.toNat_lt _) (UInt8.toNat_lt _)
abbrev Tm:=Mn × Txt
abbrev Pt:=Mn × Rat
def tm0 : Tm:=((0,0,0),[])
def pt0 : Pt:=((0,0,0),0)
def tmC (t : Tm) : D:=.agg [.int .u8 t.1.1.toNat, .int .u8 t.1.2.1.toNat, .int .u8 t.1.2.2.toNat, .str t.2]
def tmR (l : List Tm) : Nat → D:=fun i => tmC (l.getD i tm0)
def tmD (l : List Tm) : D:=.ro true 4 l.length (tmR l)
def ptC (t : Pt) : D:=.agg [.int .u8 t.1.1.toNat, .int .u8 t.1.2.1.toNat, .int .u8 t.1.2.2.toNat,u32s (limbs t.2.num.natAbs), .bool (decide (t.2.num < 0)),u32s (limbs (qden t.2))]
def ptR (l : List Pt) : Nat → D:=fun i => ptC (l.getD i pt0)
def ptsD (l : List Pt) : D:=.ro true 6 l.length (ptR l)
def pD (l : List Pt) : D:=.agg [ptsD l]
def rtC (t : Pt) : D:=.agg [.int .u8 t.1.1.toNat, .int .u8 t.1.2.1.toNat, .int .u8 t.1.2.2.toNat, .bool (decide (t.2.num < 0)),nD t.2.num.natAbs,nD t.2.den]
def rtR (l : List Pt) : Nat → D:=fun i => rtC (l.getD i pt0)
def rtD (l : List Pt) : D:=.ro true 6 l.length (rtR l)
section
variable (l : List Tm) (p : List Pt) (h : Hp) (ρ : Nat → Option Nat)
theorem cl_tm : cl (tmD l) = true:=Eq.trans rfl rfl
theorem flat_tm : flat (tmD l) = false:=Eq.trans rfl rfl
theorem imp_tm : imp ρ h (tmD l) = tmD l:=Eq.trans rfl rfl
theorem refs_tm : refs ρ (tmD l) = []:=Eq.trans rfl rfl
theorem one_tm : one h (tmD l) = true:=Eq.trans rfl rfl
theorem flat_pts : flat (ptsD p) = false:=Eq.trans rfl rfl
theorem imp_pts : imp ρ h (ptsD p) = ptsD p:=Eq.trans rfl rfl
theorem one_pts : one h (ptsD p) = true:=Eq.trans rfl rfl
theorem flat_rt : flat (rtD p) = false:=Eq.trans rfl rfl
theorem imp_rt : imp ρ h (rtD p) = rtD p:=Eq.trans rfl rfl
end
attribute [go_sem] cl_tm flat_tm imp_tm refs_tm one_tm flat_pts imp_pts one_pts flat_rt imp_rt
def okT (l : List Tm) (i : Nat) : Bool:=(match rpO (l.getD i tm0).2 with | some q => decide (q.num ≠ 0) | none => false) && (decide (i = 0) || decide (mC (l.getD (i - 1) tm0).1 (l.getD i tm0).1 < 0))
def okPl (l : List Tm) : Bool:=(List.range l.length).all (okT l)
def pV (l : List Tm) : List Pt:=l.map fun t => (t.1,(rpO t.2).getD 0)
theorem getD_mem' {α : Type} (l : List α) (k : Nat) (d : α) (h : k < l.length) : l.getD k d ∈ l:=by
  rw [List.getD_eq_getElem?_getD,List.getElem?_eq_getElem h]
  exact List.getElem_mem h
theorem pV_at {l : List Tm} {i : Nat} (hi : i < l.length) : (pV l).getD i pt0 = ((l.getD i tm0).1,(rpO (l.getD i tm0).2).getD 0):=by
  unfold pV
  rw [List.getD_eq_getElem?_getD,List.getElem?_map,List.getD_eq_getElem?_getD,List.getElem?_eq_getElem hi]
  rfl
theorem pV_len (l : List Tm) : (pV l).length = l.length:=by unfold pV;rw [List.length_map]
theorem okPl_of {l : List Tm} (h : ∀ i,i < l.length → okT l i = true) : okPl l = true:=by
  unfold okPl
  rw [List.all_eq_true]
  exact fun i hi => h i (List.mem_range.1 hi)
theorem okPl_no {l : List Tm} {i : Nat} (hi : i < l.length) (h : okT l i = false) : okPl l = false:=by
  unfold okPl
  rw [List.all_eq_false]
  exact ⟨i,List.mem_range.2 hi,by rw [h];simp⟩
def ppD (l : List Tm) : D:=.tup [pD (if okPl l = true then pV l else []), .int .i64 (if okPl l = true then 0 else 2)]
theorem LeV_p0 (k : Int) : LeV (.tup [.agg [.nils], .int .i64 k]) (.tup [pD [], .int .i64 k]):=
  LeV.tup (LesV.cons (LeV.agg (LesV.cons LeV.nils (LesV.refl _))) (LesV.refl _))
theorem pp_no {l : List Tm} (h : okPl l = false) : LeV (.tup [.agg [.nils], .int .i64 2]) (ppD l):=by
  unfold ppD
  rw [h]
  exact LeV_p0 2
theorem poly_Parse {l : List Tm} (hl : l.length < 1073741824) (ht : ∀ p ∈ l,p.2.length < 9223372036854775808) : C E 72 [tmD l] (ppD l):=by
  refine CG_intro Tryz.func72 rfl (by kernel_rfl) rfl (by kernel_rfl) (by kernel_rfl) rfl ?_
  by_cases h0 : l.length = 0
  · obtain rfl : l = []:=List.eq_nil_of_length_eq_zero h0
    simp (disch:=first|exact dd|fail) only [go_sem,seval,tmD]
    refine AL.step ?_
    simp (disch:=first|exact dd|fail) only [go_sem,seval,tmD]
    exact LeV_p0 0
  have hp0 : tmR l 0 = tmC (l.getD 0 tm0):=rfl
  have hk0 : okT l 0 = (match rpO (l.getD 0 tm0).2 with | some q => decide (q.num ≠ 0) | none => false):=by
    unfold okT;simp
  have hv0:=pV_at (l:=l) (i:=0) (by omega)
  have hr:=rat_Parse (l.getD 0 tm0).2 (ht _ (getD_mem' l 0 _ (by omega)))
  generalize he0 : l.getD 0 tm0 = t at *
  simp (disch:=first|exact dd|fail) only [go_sem,seval,tmD]
  refine AL.step ?_
  simp (disch:=first|exact dd|fail) only [go_sem,seval,tmD,hp0,tmC]
  cases hq : rpO t.2 with
  | none =>
    rw [hq] at hk0
    have hno:=okPl_no (l:=l) (i:=0) (by omega) hk0
    simp only [rpD,hq,Option.getD_none,Option.isSome_none,Bool.false_eq_true,if_false] at hr
    refine cA hr ?_
    simp (disch:=first|exact dd|fail) only [go_sem,seval]
    exact pp_no hno
  | some q =>
    rw [hq] at hk0
    have hS:=rat_Sign ((rpO_qb hq).qs (by omega))
    simp only [rpD,hq,Option.getD_some,Option.isSome_some,if_true] at hr
    refine cA hr ?_
    simp (disch:=first|exact dd|fail) only [go_sem,seval]
    refine cA hS ?_
    by_cases hz : q.num = 0
    · have hno:=okPl_no (l:=l) (i:=0) (by omega) (by rw [hk0];simp [hz])
      have hs : sgI q.num 0 = 0:=by rw [hz];exact sgI_eq 0
      simp (disch:=first|exact dd|fail) only [go_sem,seval,hs]
      exact pp_no hno
    have hs : (sgI q.num 0 == 0) = false:=by
      have:=sgI_cases q.num 0
      rw [beq_eq_false_iff_ne]
      omega
    have hk1 : okT l 0 = true:=by rw [hk0];simp [hz]
    have hl0 : l.getD 0 tm0 = t:=he0
    simp (disch:=first|exact dd|fail) only [go_sem,seval,hs,qD]
    refine ⟨.inl trivial, .inr trivial, ?_⟩
    refine AL.of (fun k : Nat => k < l.length ∧ ∀ j,j ≤ k → okT l j = true) (fun k => l.length - k) (fun k => [(0,tmD l),(2, .ad 0 0),(4, .ad 1 0),(9,tmD l),(10, .int .i64 l.length),(11, .int .i64 ((k + 1 : Nat) : Int))])
      (fun k => [(0, .var true 1 (.agg [.nils])),(1, .var true 1 (.agg [.sl 5 k 0 (k + 1)])),(5, .row false k true 6 (k + 1) (ptR (pV l)))]) 0 ⟨by omega,fun j hj => by rw [show j = 0 by omega];exact hk1⟩ ?_ ?_ ?_ ?_
    · simp (disch:=first|exact dd|fail) only [go_sem,seval,tmD]
      try exact LeV.refl _
    · simp (disch:=first|exact dd|fail) only [go_sem,seval]
      intro i hi
      obtain rfl : i = 0:=by omega
      have e : ptR (pV l) 0 = ptC (t.1,q):=by unfold ptR;rw [hv0,hq];rfl
      rw [e]
      exact Le.refl _
    · intro x _;simp (disch:=first|exact dd|fail) only [go_sem,seval]
    rintro k ⟨hk,hok⟩
    clear hk0 hk1 hs hS hr hz hv0 hp0 hq he0 hl0
    by_cases hkl : k + 1 = l.length
    · have hyes:=okPl_of (l:=l) fun i hi => hok i (by omega)
      simp (disch:=first|exact dd|fail) only [go_sem,seval,tmD,hkl]
      unfold ppD
      rw [hyes]
      exact LeV.tup (LesV.cons (LeV.agg (LesV.cons (LeV.ro (pV_len l).symm fun j hj => Le.refl _) (LesV.refl _))) (LesV.refl _))
    have hp1 : tmR l (k + 1) = tmC (l.getD (k + 1) tm0):=rfl
    have hpk : tmR l (((k + 1 : Nat) : Int) - 1).toNat = tmC (l.getD k tm0):=by rw [show (((k + 1 : Nat) : Int) - 1).toNat = k by omega];rfl
    have hk0 : okT l (k + 1) = ((match rpO (l.getD (k + 1) tm0).2 with | some q => decide (q.num ≠ 0) | none => false) && decide (mC (l.getD k tm0).1 (l.getD (k + 1) tm0).1 < 0)):=by
      unfold okT;simp
    have hv0:=pV_at (l:=l) (i:=k + 1) (by omega)
    have hr:=rat_Parse (l.getD (k + 1) tm0).2 (ht _ (getD_mem' l (k + 1) _ (by omega)))
    have hC:=mn_Cmp (l.getD k tm0).1 (l.getD (k + 1) tm0).1
    generalize l.getD (k + 1) tm0 = t at *
    generalize l.getD k tm0 = t' at *
    simp (disch:=first|exact dd|fail) only [go_sem,seval,tmD,hp1,tmC]
    cases hq : rpO t.2 with
    | none =>
      rw [hq] at hk0
      have hno:=okPl_no (l:=l) (i:=k + 1) (by omega) (by rw [hk0];rfl)
      simp only [rpD,hq,Option.getD_none,Option.isSome_none,Bool.false_eq_true,if_false] at hr
      refine cA hr ?_
      simp (disch:=first|exact dd|fail) only [go_sem,seval]
      exact pp_no hno
    | some q =>
      rw [hq] at hk0
      have hS:=rat_Sign ((rpO_qb hq).qs (by omega))
      simp only [rpD,hq,Option.getD_some,Option.isSome_some,if_true] at hr
      refine cA hr ?_
      simp (disch:=first|exact dd|fail) only [go_sem,seval]
      refine cA hS ?_
      by_cases hz : q.num = 0
      · have hno:=okPl_no (l:=l) (i:=k + 1) (by omega) (by rw [hk0];simp [hz])
        have hs : sgI q.num 0 = 0:=by rw [hz];exact sgI_eq 0
        simp (disch:=first|exact dd|fail) only [go_sem,seval,hs]
        exact pp_no hno
      have hs : (sgI q.num 0 == 0) = false:=by
        have:=sgI_cases q.num 0
        rw [beq_eq_false_iff_ne]
        omega
      simp (disch:=first|exact dd|fail) only [go_sem,seval,hs,hpk,tmC]
      refine cA hC ?_
      by_cases hm : mC t'.1 t.1 < 0
      · have hm2 : decide (0 ≤ mC t'.1 t.1) = false:=decide_eq_false (by omega)
        have hk1 : okT l (k + 1) = true:=by rw [hk0];simp [hz,hm]
        simp (disch:=first|exact dd|fail) only [go_sem,seval,hm,hm2,qD]
        refine ⟨.inl trivial, .inr trivial,by omega,by omega,k + 1,⟨by omega,fun j hj => ?_⟩,by show l.length - (k + 1) < l.length - k;omega, ?_, ?_⟩
        · rcases Nat.lt_or_ge j (k + 1) with h | h
          · exact hok j (by omega)
          · rw [show j = k + 1 by omega];exact hk1
        · simp (disch:=first|exact dd|fail) only [go_sem,seval,tmD]
          try exact LeV.refl _
        · simp (disch:=first|exact dd|fail) only [go_sem,seval]
          intro i hi
          by_cases h : i < k + 1
          · rw [if_pos h]
            exact Le.refl _
          · obtain rfl : i = k + 1:=by omega
            have e : ptR (pV l) (k + 1) = ptC (t.1,q):=by unfold ptR;rw [hv0,hq];rfl
            rw [if_neg h,e,Nat.sub_self]
            exact Le.refl _
      · have hno:=okPl_no (l:=l) (i:=k + 1) (by omega) (by rw [hk0];simp [hz,hm])
        simp (disch:=first|exact dd|fail) only [go_sem,seval,hm]
        exact pp_no hno
def rpp (l : List Tm) : D:=.tup [if okPl l = true then rtD (pV l) else .nils, .bool (okPl l)]
theorem ref_PolyParse {l : List Tm} (hl : l.length < 1073741824) (ht : ∀ p ∈ l,p.2.length < 9223372036854775808) : C E 83 [tmD l] (rpp l):=by
  refine CG_intro Tryz.func83 rfl (by kernel_rfl) rfl (by kernel_rfl) (by kernel_rfl) rfl ?_
  simp (disch:=first|exact dd|fail) only [go_sem,seval]
  refine AL.ofN 4 true 6 (fun _ => .unk) (fun k : Nat => k ≤ l.length ∧ ∀ j,j < k → okT l j = true) (fun k => l.length - k) (fun k => [(0,tmD l),(4, .sl 0 k 0 k),(5, .int .i64 k)]) (fun k => [(0, .row false k true 6 k (rtR (pV l)))]) 0 (by simp (disch:=first|exact dd|fail) only [go_sem,seval]) ⟨Nat.zero_le _,fun j hj => absurd hj (by omega)⟩ ?_ ?_ ?_ ?_
  · simp (disch:=first|exact dd|fail) only [go_sem,seval]
    try exact LeV.refl _
  · simp (disch:=first|exact dd|fail) only [go_sem,seval]
    try exact fun j hj => absurd hj (by omega)
  · intro x _;simp (disch:=first|exact dd|fail) only [go_sem,seval]
  rintro k ⟨hk,hok⟩
  by_cases hkl : k = l.length
  · subst hkl
    have hyes:=okPl_of (l:=l) hok
    simp (disch:=first|exact dd|fail) only [go_sem,seval,tmD]
    unfold rpp
    rw [hyes]
    exact LeV.tup (LesV.cons (LeV.ro (pV_len l).symm fun j hj => Le.refl _) (LesV.refl _))
  have hp1 : tmR l k = tmC (l.getD k tm0):=rfl
  have hv0:=pV_at (l:=l) (i:=k) (by omega)
  have hr:=ref_RatParse (l.getD k tm0).2 (ht _ (getD_mem' l k _ (by omega)))
  have hk0 : okT l k = ((match rpO (l.getD k tm0).2 with | some q => decide (q.num ≠ 0) | none => false) && (decide (k = 0) || decide (mC (l.getD (k - 1) tm0).1 (l.getD k tm0).1 < 0))):=by
    unfold okT;rfl
  have hpk : 0 < k → tmR l ((k : Int) - 1).toNat = tmC (l.getD (k - 1) tm0):=fun h => by rw [show ((k : Int) - 1).toNat = k - 1 by omega];rfl
  have hC:=ref_mnCmp (l.getD (k - 1) tm0).1 (l.getD k tm0).1
  generalize l.getD k tm0 = t at *
  generalize l.getD (k - 1) tm0 = t' at *
  simp (disch:=first|exact dd|fail) only [go_sem,seval,tmD,hp1,tmC]
  have no : okT l k = false → LeV (.tup [.nils, .bool false]) (rpp l):=fun h => by
    have hno:=okPl_no (l:=l) (i:=k) (by omega) h
    unfold rpp
    rw [hno]
    exact LeV.refl _
  cases hq : rpO t.2 with
  | none =>
    rw [hq] at hk0
    simp only [rrD,hq] at hr
    refine cA hr ?_
    simp (disch:=first|exact dd|fail) only [go_sem,seval]
    exact no (by rw [hk0];rfl)
  | some q =>
    rw [hq] at hk0
    have hS:=ref_Sign (z:=q.num) (by have:=(rpO_qb hq).1;omega)
    simp only [rrD,hq] at hr
    refine cA hr ?_
    simp (disch:=first|exact dd|fail) only [go_sem,seval,rqD]
    refine cA hS ?_
    by_cases hz : q.num = 0
    · have hs : sgI q.num 0 = 0:=by rw [hz];exact sgI_eq 0
      simp (disch:=first|exact dd|fail) only [go_sem,seval,hs]
      exact no (by rw [hk0];simp [hz])
    have hs : (sgI q.num 0 == 0) = false:=by
      have:=sgI_cases q.num 0
      rw [beq_eq_false_iff_ne]
      omega
    have fin : k < l.length → ∀ i,i < k + 1 → Le (if i < k then rtR (pV l) i else [D.agg [.int .u8 t.1.1.toNat, .int .u8 t.1.2.1.toNat, .int .u8 t.1.2.2.toNat, .bool (decide (q.num < 0)),nD q.num.natAbs,nD q.den]].getD (i - k) .unk) (rtR (pV l) i):=fun _ i hi => by
      by_cases h : i < k
      · rw [if_pos h]
        exact Le.refl _
      · obtain rfl : i = k:=by omega
        have e : rtR (pV l) i = rtC (t.1,q):=by unfold rtR;rw [hv0,hq];rfl
        rw [if_neg h,e,Nat.sub_self]
        exact Le.refl _
    by_cases h0 : k = 0
    · subst h0
      have hk1 : okT l 0 = true:=by rw [hk0];simp [hz]
      simp (disch:=first|exact dd|fail) only [go_sem,seval,hs,hp1,tmC]
      refine ⟨.inl trivial, .inr trivial,1,⟨by omega,fun j hj => by rw [show j = 0 by omega];exact hk1⟩,by show l.length - 1 < l.length - 0;omega, ?_, ?_⟩
      · simp (disch:=first|exact dd|fail) only [go_sem,seval,tmD]
        try exact LeV.refl _
      · simp (disch:=first|exact dd|fail) only [go_sem,seval]
        exact fin (by omega)
    have hpk:=hpk (by omega)
    simp (disch:=first|exact dd|fail) only [go_sem,seval,hs,hpk,hp1,tmC]
    refine cA hC ?_
    by_cases hm : mC t'.1 t.1 < 0
    · have hm2 : decide (0 ≤ mC t'.1 t.1) = false:=decide_eq_false (by omega)
      have hk1 : okT l k = true:=by rw [hk0];simp [hz,hm]
      simp (disch:=first|exact dd|fail) only [go_sem,seval,hm,hm2,hp1,tmC]
      refine ⟨.inl trivial, .inr trivial,by omega,by omega,k + 1,⟨by omega,fun j hj => ?_⟩,by show l.length - (k + 1) < l.length - k;omega, ?_, ?_⟩
      · rcases Nat.lt_or_ge j k with h | h
        · exact hok j h
        · rw [show j = k by omega];exact hk1
      · simp (disch:=first|exact dd|fail) only [go_sem,seval,tmD]
        try exact LeV.refl _
      · simp (disch:=first|exact dd|fail) only [go_sem,seval]
        exact fin (by omega)
    · simp (disch:=first|exact dd|fail) only [go_sem,seval,hm]
      exact no (by rw [hk0];simp [hz,hm,h0])
def mxF (f : Pt → Nat) (l : List Pt) : Nat:=l.foldl (fun n t => max n (f t)) 0
theorem mxF_take (f : Pt → Nat) {l : List Pt} {i : Nat} (hi : i < l.length) : max (mxF f (l.take i)) (f (l.getD i pt0)) = mxF f (l.take (i + 1)):=by
  unfold mxF
  rw [List.take_succ_eq_append_getElem hi,List.foldl_append,List.getD_eq_getElem?_getD,List.getElem?_eq_getElem hi]
  rfl
theorem mxF_le {f : Pt → Nat} {l : List Pt} {m : Nat} (h : ∀ t,f t ≤ m) : mxF f l ≤ m:=by
  have : ∀ (l : List Pt) (a : Nat),a ≤ m → l.foldl (fun n t => max n (f t)) a ≤ m:=fun l => by
    induction l with
    | nil => intro a ha;exact ha
    | cons t l ih => intro a ha;exact ih _ (Nat.max_le.2 ⟨ha,h t⟩)
  exact this l 0 (Nat.zero_le _)
def varM (m : Mn) : Nat:=vars m.1.toNat m.2.1.toNat m.2.2.toNat
theorem varM_le (m : Mn) : varM m ≤ 3:=by unfold varM vars;split;omega;split;omega;split <;> omega
theorem mn_Vars (m : Mn) : C E 131 [mD m] (.int .i64 (varM m)):=mono_Vars
def pVars (l : List Pt) : Nat:=mxF (fun t => varM t.1) l
theorem pVars_le (l : List Pt) : pVars l ≤ 3:=mxF_le fun t => varM_le t.1
theorem poly_Vars {l : List Pt} (hl : l.length < 1073741824) : C E 89 [pD l] (.int .i64 (pVars l)):=by
  refine CG_intro Tryz.func89 rfl (by kernel_rfl) rfl (by kernel_rfl) (by kernel_rfl) rfl ?_
  simp (disch:=first|exact dd|fail) only [go_sem,seval,pD,ptsD]
  refine AL.of (fun i : Nat => i ≤ l.length) (fun i => l.length - i) (fun i => [(3, .int .i64 (pVars (l.take i))),(7,ptsD l),(8, .int .i64 l.length),(9, .int .i64 i)]) (fun _ => []) 0 (Nat.zero_le _) ?_ ?_ ?_ ?_
  · simp (disch:=first|exact dd|fail) only [go_sem,seval,ptsD]
    try exact LeV.refl _
  · simp (disch:=first|exact dd|fail) only [go_sem,seval]
  · intro x _;simp (disch:=first|exact dd|fail) only [go_sem,seval]
  intro i hi
  by_cases hil : i = l.length
  · simp (disch:=first|exact dd|fail) only [go_sem,seval,ptsD,hil,List.take_length]
  · have hp : ptR l i = ptC (l.getD i pt0):=rfl
    have hv:=mn_Vars (l.getD i pt0).1
    have ht:=mxF_take (fun t => varM t.1) (l:=l) (i:=i) (by omega)
    have hle:=pVars_le (l.take i)
    have hle2:=varM_le (l.getD i pt0).1
    have ht2 : max ((pVars (l.take i) : Nat) : Int) ((varM (l.getD i pt0).1 : Nat) : Int) = ((pVars (l.take (i + 1)) : Nat) : Int):=by
      have : max (pVars (l.take i)) (varM (l.getD i pt0).1) = pVars (l.take (i + 1)):=ht
      omega
    generalize l.getD i pt0 = t at *
    simp (disch:=first|exact dd|fail) only [go_sem,seval,ptsD,hp,ptC]
    refine cA hv ?_
    simp (disch:=first|exact dd|fail) only [go_sem,seval,ht2]
    refine ⟨i + 1,by show i + 1 ≤ l.length;omega,by show l.length - (i + 1) < l.length - i;omega, ?_, ?_⟩
    · simp (disch:=first|exact dd|fail) only [go_sem,seval,ptsD]
      try exact LeV.refl _
    · simp (disch:=first|exact dd|fail) only [go_sem,seval]
def lowM (m : Mn) : Bool:=decide (m.1.toNat ≤ 8) && decide (m.2.1.toNat ≤ 8) && decide (m.2.2.toNat ≤ 8)
def lowB (l : List Tm) : Bool:=l.all fun t => lowM t.1
theorem claim_low {l : List Tm} (hl : l.length < 1073741824) : C E 73 [tmD l] (.bool (lowB l)):=by
  refine CG_intro Tryz.func73 rfl (by kernel_rfl) rfl (by kernel_rfl) (by kernel_rfl) rfl ?_
  simp (disch:=first|exact dd|fail) only [go_sem,seval,tmD]
  refine AL.of (fun i : Nat => i ≤ l.length ∧ ∀ j,j < i → lowM (l.getD j tm0).1 = true) (fun i => l.length - i) (fun i => [(7,tmD l),(8, .int .i64 l.length),(9, .int .i64 i)]) (fun _ => []) 0 ⟨Nat.zero_le _,fun j hj => absurd hj (by omega)⟩ ?_ ?_ ?_ ?_
  · simp (disch:=first|exact dd|fail) only [go_sem,seval,tmD]
    try exact LeV.refl _
  · simp (disch:=first|exact dd|fail) only [go_sem,seval]
  · intro x _;simp (disch:=first|exact dd|fail) only [go_sem,seval]
  rintro i ⟨hi,hok⟩
  by_cases hil : i = l.length
  · have hyes : lowB l = true:=by
      unfold lowB
      rw [List.all_eq_true]
      intro t ht
      obtain ⟨j,hj,rfl⟩:=List.mem_iff_getElem.1 ht
      have:=hok j (by omega)
      rw [List.getD_eq_getElem?_getD,List.getElem?_eq_getElem hj] at this
      exact this
    simp (disch:=first|exact dd|fail) only [go_sem,seval,tmD,hil,hyes]
  · have hp : tmR l i = tmC (l.getD i tm0):=rfl
    have hno : lowM (l.getD i tm0).1 = false → lowB l = false:=fun h => by
      unfold lowB
      rw [List.all_eq_false]
      exact ⟨_,getD_mem' l i tm0 (by omega),by rw [h];simp⟩
    have hyes : lowM (l.getD i tm0).1 = true → i + 1 ≤ l.length ∧ ∀ j,j < i + 1 → lowM (l.getD j tm0).1 = true:=fun h => ⟨by omega,fun j hj => by
      rcases Nat.lt_or_ge j i with h2 | h2
      · exact hok j h2
      · rw [show j = i by omega];exact h⟩
    generalize l.getD i tm0 = t at *
    obtain ⟨⟨a,b,c⟩,s⟩:=t
    simp only [lowM] at hno hyes
    simp (disch:=first|exact dd|fail) only [go_sem,seval,tmD,hp,tmC]
    refine AL.step ?_
    by_cases ha : a.toNat ≤ 8
    · simp (disch:=first|exact dd|fail) only [go_sem,seval]
      refine AL.step ?_
      by_cases hb : b.toNat ≤ 8
      · simp (disch:=first|exact dd|fail) only [go_sem,seval]
        refine AL.step ?_
        by_cases hc : c.toNat ≤ 8
        · simp (disch:=first|exact dd|fail) only [go_sem,seval]
          refine AL.step ?_
          simp (disch:=first|exact dd|fail) only [go_sem,seval]
          refine ⟨i + 1,hyes (by simp [ha,hb,hc]),by show l.length - (i + 1) < l.length - i;omega, ?_, ?_⟩
          · simp (disch:=first|exact dd|fail) only [go_sem,seval,tmD]
            try exact LeV.refl _
          · simp (disch:=first|exact dd|fail) only [go_sem,seval]
        · rw [hno (by simp [hc])]
          simp (disch:=first|exact dd|fail) only [go_sem,seval]
      · rw [hno (by simp [hb])]
        simp (disch:=first|exact dd|fail) only [go_sem,seval]
    · rw [hno (by simp [ha])]
      simp (disch:=first|exact dd|fail) only [go_sem,seval]
def exM (k : Nat) (m : Mn) : Nat:=if k = 0 then m.1.toNat else if k = 1 then m.2.1.toNat else m.2.2.toNat
theorem exM_lt (k : Nat) (m : Mn) : exM k m ≤ 255:=by
  have h1:=UInt8.toNat_lt m.1
  have h2:=UInt8.toNat_lt m.2.1
  have h3:=UInt8.toNat_lt m.2.2
  unfold exM;split;omega;split <;> omega
def topX (k : Nat) (l : List Pt) : Nat:=mxF (fun t => exM k t.1) l
theorem ref_Top {l : List Pt} (hl : l.length < 1073741824) {k : Nat} (hk : k < 3) : C E 84 [rtD l, .int .i64 k] (.int .i64 (topX k l)):=by
  refine CG_intro Tryz.func84 rfl (by kernel_rfl) rfl (by kernel_rfl) (by kernel_rfl) rfl ?_
  simp (disch:=first|exact dd|fail) only [go_sem,seval,rtD]
  refine AL.of (fun i : Nat => i ≤ l.length) (fun i => l.length - i) (fun i => [(0,rtD l),(1, .int .i64 k),(5, .int .i64 (topX k (l.take i))),(6, .int .i64 i)]) (fun _ => []) 0 (Nat.zero_le _) ?_ ?_ ?_ ?_
  · simp (disch:=first|exact dd|fail) only [go_sem,seval,rtD]
    exact LeV.refl _
  · simp (disch:=first|exact dd|fail) only [go_sem,seval]
  · intro x _;simp (disch:=first|exact dd|fail) only [go_sem,seval]
  intro i hi
  by_cases hil : i = l.length
  · simp (disch:=first|exact dd|fail) only [go_sem,seval,rtD,hil,List.take_length]
  · have hp : rtR l i = rtC (l.getD i pt0):=rfl
    have ht:=mxF_take (fun t => exM k t.1) (l:=l) (i:=i) (by omega)
    have hle:=mxF_le (f:=fun t => exM k t.1) (l:=l.take i) (m:=255) fun t => exM_lt k t.1
    have hle2:=exM_lt k (l.getD i pt0).1
    have ht2 : max ((topX k (l.take i) : Nat) : Int) ((exM k (l.getD i pt0).1 : Nat) : Int) = ((topX k (l.take (i + 1)) : Nat) : Int):=by
      have : max (topX k (l.take i)) (exM k (l.getD i pt0).1) = topX k (l.take (i + 1)):=ht
      omega
    have hle : topX k (l.take i) ≤ 255:=hle
    generalize l.getD i pt0 = t at *
    obtain ⟨⟨a,b,c⟩,q⟩:=t
    have a1:=UInt8.toNat_lt a
    have a2:=UInt8.toNat_lt b
    have a3:=UInt8.toNat_lt c
    obtain rfl | rfl | rfl : k = 0 ∨ k = 1 ∨ k = 2:=by omega
    all_goals
      simp only [exM,Nat.one_ne_zero,if_true,if_false,Nat.reduceEqDiff] at ht2
      simp (disch:=first|exact dd|fail) only [go_sem,seval,rtD,hp,rtC,ht2]
      refine ⟨i + 1,by show i + 1 ≤ l.length;omega,by show l.length - (i + 1) < l.length - i;omega, ?_, ?_⟩
      · simp (disch:=first|exact dd|fail) only [go_sem,seval,rtD]
        try exact LeV.refl _
      · simp (disch:=first|exact dd|fail) only [go_sem,seval]
end Go.Proofs.YtakaojkfipnfcaaGreatDoor.Lv
