/- The program's whole numbers and quotients: Parse; strings.Cut. The program's whole numbers: Parse. The program's quotients: Parse. The program's dyadic numbers: Of. The document's numbers: quotients: Parse, Cmp, Dyadic. The document's quotients: RatParse. The program's intervals: New, Parse, half, Mid. The program's boxes: side, Right, Clone. The program's boxes: Parse, Split. The document's intervals and boxes: SpanParse, BoxParse. The book's Pairs, Within; the law's Of. -/
import Derived.Test.YtakaojkfipnfcaaGreatDoorG16
import Derived.Test.YtakaojkfipnfcaaGreatDoorSf
import Derived.Test.YtakaojkfipnfcaaGreatDoorG14
import Derived.Test.YtakaojkfipnfcaaGreatDoorG15
import Derived.Test.YtakaojkfipnfcaaGreatDoorG13
set_option linter.unusedVariables false
set_option linter.unusedSimpArgs false
set_option maxRecDepth 100000
set_option maxHeartbeats 4000000
namespace Go.Proofs.YtakaojkfipnfcaaGreatDoor.Lv
open Go Go.RowKit
theorem lite_IndexByte (s : List UInt8) (c : UInt8) : C E 199 [.str s, .int .u8 (c.toNat : Int)] (.int .i64 (Lib.indexByte s c)):=by
  refine C.of_walk (by kernel_rfl) (fun S w vs hS hv => ?_) (fun φ S w vs hv => ?_)
  · simp only [RepVs,RepV,Rep0] at hv
    obtain ⟨v,vs',rfl,rfl,v2,vs'',rfl,rfl,rfl⟩:=hv
    have h:=Tryz.stringslite_IndexByte ⟨s.toArray⟩ (c.toNat : Int) w
    refine h.mono ?_
    rintro e w' ⟨rfl,rfl⟩
    refine ⟨_,rfl,fun S w => ?_,Below.refl _ _⟩
    have e : ((c.toNat : Int)).toNat.toUInt8 = c:=by simp
    simp only [Rep0,e]
  · simp only [RepVs,RepV,Rep0] at hv ⊢
    exact hv
theorem ib_lt : ∀ (s : List UInt8) (c : UInt8),Lib.indexByte s c < (s.length : Int) ∧ -1 ≤ Lib.indexByte s c
  | [],c => by simp [Lib.indexByte]
  | b :: l,c => by
    have:=ib_lt l c
    simp only [Lib.indexByte,List.length_cons]
    split
    · omega
    · split
      · omega
      · omega
theorem ib_one (c : UInt8) : Lib.indexByte [c] c = 0:=by simp [Lib.indexByte]
theorem lite_Index (s : List UInt8) (c : UInt8) (hs : s.length < 9223372036854775808) : C E 192 [.str s, .str [c]] (.int .i64 (Lib.indexByte s c)):=by
  refine CG_intro Tryz.func192 rfl (by kernel_rfl) rfl (by kernel_rfl) (by kernel_rfl) rfl ?_
  by_cases h : [c] = s
  · subst h
    have e : ([c] == [c]) = true:=by simp
    rw [ib_one]
    simp (disch:=first|exact dd|fail) only [go_sem,seval,e]
  · have e : ([c] == s) = false:=beq_eq_false_iff_ne.2 h
    simp (disch:=first|exact dd|fail) only [go_sem,seval,e]
    refine cA (lite_IndexByte s c) ?_
    simp (disch:=first|exact dd|fail) only [go_sem,seval]
def cutD1 (s : List UInt8) (c : UInt8) : D:=if 0 ≤ Lib.indexByte s c then .tup [.str (s.take (Lib.indexByte s c).toNat), .str (s.drop ((Lib.indexByte s c).toNat + 1)), .bool true] else .tup [.str s, .str [], .bool false]
theorem lite_Cut (s : List UInt8) (c : UInt8) (hs : s.length < 9223372036854775808) : C E 170 [.str s, .str [c]] (cutD1 s c):=by
  refine CG_intro Tryz.func170 rfl (by kernel_rfl) rfl (by kernel_rfl) (by kernel_rfl) rfl ?_
  obtain ⟨i1,i2⟩:=ib_lt s c
  have hcl : cl (cutD1 s c) = true:=by unfold cutD1;split <;> rfl
  simp (disch:=first|exact dd|fail) only [go_sem,seval]
  refine cA (lite_Index s c hs) ?_
  unfold cutD1
  generalize Lib.indexByte s c = i at *
  by_cases h : 0 ≤ i
  · obtain ⟨j,rfl⟩:=Int.eq_ofNat_of_zero_le h
    rw [if_pos h]
    have t1 : ((j : Int) + 1).toNat = j + 1:=by omega
    have t2 : ((s.length : Nat) : Int).toNat = s.length:=by omega
    simp (disch:=first|exact dd|fail) only [go_sem,seval,t1,t2,List.take_length]
    try exact LeV.refl _
  · rw [if_neg h]
    simp (disch:=first|exact dd|fail) only [go_sem,seval]
theorem strings_Cut (s : List UInt8) (c : UInt8) (hs : s.length < 9223372036854775808) : C E 132 [.str s, .str [c]] (cutD1 s c):=by
  refine CG_intro Tryz.func132 rfl (by kernel_rfl) rfl (by kernel_rfl) (by kernel_rfl) rfl ?_
  have hcl : cl (cutD1 s c) = true:=by unfold cutD1;split <;> rfl
  have hfl : flat (cutD1 s c) = true:=by unfold cutD1;split <;> rfl
  simp (disch:=first|exact dd|fail) only [go_sem,seval]
  refine callC (lite_Cut s c hs) ?_ hcl ?_
  · simp (disch:=first|exact dd|fail) only [go_sem,seval]
  rw [hfl]
  unfold cutD1
  by_cases h : 0 ≤ Lib.indexByte s c
  · simp only [if_pos h]
    simp (disch:=first|exact dd|fail) only [go_sem,seval]
  · simp only [if_neg h]
    simp (disch:=first|exact dd|fail) only [go_sem,seval]
def zpO (s : List UInt8) : Option Int:=if s ≠ [] ∧ (s.getD 0 0).toNat = 45 then (if okNat (s.drop 1) = true ∧ dval (s.drop 1) ≠ 0 then some (-(dval (s.drop 1) : Int)) else none) else (if okNat s = true then some (dval s : Int) else none)
def zpD (s : List UInt8) : D:=.tup [zD ((zpO s).getD 0), .int .i64 (if (zpO s).isSome = true then 0 else 2)]
theorem zpD_no {s : List UInt8} (h : zpO s = none) : zpD s = .tup [zD 0, .int .i64 2]:=by rw [zpD,h];rfl
theorem zpD_yes {s : List UInt8} {z : Int} (h : zpO s = some z) : zpD s = .tup [zD z, .int .i64 0]:=by rw [zpD,h];rfl
theorem LeV_z0 : LeV (.tup [.agg [.nils, .bool false], .int .i64 2]) (.tup [zD 0, .int .i64 2]):=by
  refine LeV.tup (LesV.cons (LeV.agg (LesV.cons ?_ (LesV.refl _))) (LesV.refl _))
  rw [Int.natAbs_zero,limbs_zero];exact LeV.nils
theorem okNat_len {s : List UInt8} (h : okNat s = true) : s.length ≤ 4000 ∧ ∀ c ∈ s,isDig c = true:=by
  simp only [okNat,Bool.and_eq_true,decide_eq_true_eq,List.all_eq_true] at h
  exact ⟨h.1.1.2,h.2⟩
theorem whole_Parse (s : List UInt8) (hs : s.length < 9223372036854775808) : C E 133 [.str s] (zpD s):=by
  refine CG_intro Tryz.func133 rfl (by kernel_rfl) rfl (by kernel_rfl) (by kernel_rfl) rfl ?_
  have hcl : ∀ t,cl (npD t) = true:=fun t => rfl
  have t2 : ((s.length : Nat) : Int).toNat = s.length:=by omega
  by_cases h0 : s = []
  · subst h0
    have e : (([] : List UInt8) == []) = true:=rfl
    have hz : zpO [] = none:=rfl
    have hn:=nat_Parse []
    rw [npD_no rfl] at hn
    rw [zpD_no hz]
    simp (disch:=first|exact dd|fail) only [go_sem,seval,e]
    refine cA hn ?_
    simp (disch:=first|exact dd|fail) only [go_sem,seval]
    exact LeV_z0
  have e0 : (s == []) = false:=beq_eq_false_iff_ne.2 h0
  have hpos : 0 < s.length:=List.length_pos_iff.2 h0
  have hc0:=(s.getD 0 0).toNat_lt
  by_cases h1 : (s.getD 0 0).toNat = 45
  · have hn:=nat_Parse (s.drop 1)
    by_cases hok : okNat (s.drop 1) = true
    · obtain ⟨hl,hd⟩:=okNat_len hok
      have hnb:=dval_nb _ hd
      rw [npD_yes hok] at hn
      have hf:=whole_From true (n:=dval (s.drop 1)) (by omega)
      by_cases hz : dval (s.drop 1) = 0
      · have ez : zpO s = none:=by unfold zpO;rw [if_pos ⟨h0,h1⟩,if_neg (fun h => h.2 hz)]
        rw [zpD_no ez]
        rw [hz] at hn
        have b0 : nbit 0 = 0:=rfl
        simp (disch:=first|exact dd|fail) only [go_sem,seval,e0,h1,t2,List.take_length]
        refine cA hn ?_
        simp (disch:=first|exact dd|fail) only [go_sem,seval]
        refine cA (nat_Bits (n:=0) (by unfold nb;rw [limbs_zero];simp)) ?_
        simp (disch:=first|exact dd|fail) only [go_sem,seval,b0]
        exact LeV_z0
      · have ez : zpO s = some (-(dval (s.drop 1) : Int)):=by unfold zpO;rw [if_pos ⟨h0,h1⟩,if_pos ⟨hok,hz⟩]
        rw [zpD_yes ez]
        rw [show mkZ true (dval (s.drop 1)) = -(dval (s.drop 1) : Int) from rfl] at hf
        have bp:=nbit_pos (Nat.pos_of_ne_zero hz)
        have bl:=nbit_nb (dval (s.drop 1))
        simp (disch:=first|exact dd|fail) only [go_sem,seval,e0,h1,t2,List.take_length]
        refine cA hn ?_
        simp (disch:=first|exact dd|fail) only [go_sem,seval]
        refine cA (nat_Bits (n:=dval (s.drop 1)) (by omega)) ?_
        simp (disch:=first|exact dd|fail) only [go_sem,seval]
        refine cA hf ?_
        simp (disch:=first|exact dd|fail) only [go_sem,seval]
        try exact LeV.refl _
    · have hok' : okNat (s.drop 1) = false:=by simpa using hok
      have ez : zpO s = none:=by unfold zpO;rw [if_pos ⟨h0,h1⟩,if_neg (fun h => hok h.1)]
      rw [zpD_no ez]
      rw [npD_no hok'] at hn
      simp (disch:=first|exact dd|fail) only [go_sem,seval,e0,h1,t2,List.take_length]
      refine cA hn ?_
      simp (disch:=first|exact dd|fail) only [go_sem,seval]
      exact LeV_z0
  · have hn:=nat_Parse s
    have hne : (((s.getD 0 0).toNat : Int) == 45) = false:=beq_eq_false_iff_ne.2 (by omega)
    by_cases hok : okNat s = true
    · obtain ⟨hl,hd⟩:=okNat_len hok
      have hnb:=dval_nb _ hd
      rw [npD_yes hok] at hn
      have hf:=whole_From false (n:=dval s) (by omega)
      have ez : zpO s = some (dval s : Int):=by unfold zpO;rw [if_neg (fun h => h1 h.2),if_pos hok]
      rw [zpD_yes ez]
      rw [show mkZ false (dval s) = (dval s : Int) from rfl] at hf
      simp (disch:=first|exact dd|fail) only [go_sem,seval,e0,hne]
      refine cA hn ?_
      simp (disch:=first|exact dd|fail) only [go_sem,seval]
      refine cA hf ?_
      simp (disch:=first|exact dd|fail) only [go_sem,seval]
      try exact LeV.refl _
    · have hok' : okNat s = false:=by simpa using hok
      have ez : zpO s = none:=by unfold zpO;rw [if_neg (fun h => h1 h.2),if_neg hok]
      rw [zpD_no ez]
      rw [npD_no hok'] at hn
      simp (disch:=first|exact dd|fail) only [go_sem,seval,e0,hne]
      refine cA hn ?_
      simp (disch:=first|exact dd|fail) only [go_sem,seval]
      exact LeV_z0
def rpO (s : List UInt8) : Option Rat:=
  if 0 ≤ Lib.indexByte s 47 then
    match zpO (s.take (Lib.indexByte s 47).toNat) with
    | none => none
    | some n => if okNat (s.drop ((Lib.indexByte s 47).toNat + 1)) = true ∧ 2 ≤ dval (s.drop ((Lib.indexByte s 47).toNat + 1)) ∧ Nat.gcd (dval (s.drop ((Lib.indexByte s 47).toNat + 1))) n.natAbs = 1 then some (mkRat n (dval (s.drop ((Lib.indexByte s 47).toNat + 1)))) else none
  else (zpO s).map fun n : Int => (n : Rat)
def rpD (s : List UInt8) : D:=.tup [qD ((rpO s).getD 0), .int .i64 (if (rpO s).isSome = true then 0 else 2)]
theorem rpD_no {s : List UInt8} (h : rpO s = none) : rpD s = .tup [qD 0, .int .i64 2]:=by rw [rpD,h];rfl
theorem rpD_yes {s : List UInt8} {z : Rat} (h : rpO s = some z) : rpD s = .tup [qD z, .int .i64 0]:=by rw [rpD,h];rfl
theorem LeV_q0' : LeV (.agg [.nils, .bool false, .nils]) (qD 0):=by
  have:=qD_int 0
  rw [Int.natAbs_zero,limbs_zero] at this
  refine LeV.trans (LeV.agg (LesV.cons LeV.nils (LesV.refl _))) this
theorem LeV_q0 : LeV (.tup [.agg [.nils, .bool false, .nils], .int .i64 2]) (.tup [qD 0, .int .i64 2]):=LeV.tup (LesV.cons LeV_q0' (LesV.refl _))
theorem LeV_q1 : LeV (.tup [.agg [u32s (limbs 0), .bool false, .nils], .int .i64 2]) (.tup [qD 0, .int .i64 2]):=LeV.tup (LesV.cons (qD_int 0) (LesV.refl _))
theorem zpO_nb {s : List UInt8} {n : Int} (h : zpO s = some n) : zb n ≤ 4000:=by
  unfold zpO at h
  split at h
  · split at h
    · rename_i h1
      obtain ⟨hl,hd⟩:=okNat_len h1.1
      have:=dval_nb _ hd
      cases h
      rw [zb_neg]
      show nb _ ≤ 4000
      rw [Int.natAbs_natCast]
      omega
    · cases h
  · split at h
    · rename_i h1
      obtain ⟨hl,hd⟩:=okNat_len h1
      have:=dval_nb _ hd
      cases h
      show nb _ ≤ 4000
      rw [Int.natAbs_natCast]
      omega
    · cases h
theorem rat_Parse (s : List UInt8) (hs : s.length < 9223372036854775808) : C E 91 [.str s] (rpD s):=by
  refine CG_intro Tryz.func91 rfl (by kernel_rfl) rfl (by kernel_rfl) (by kernel_rfl) rfl ?_
  have hc:=strings_Cut s 47 hs
  obtain ⟨i1,i2⟩:=ib_lt s 47
  by_cases h : 0 ≤ Lib.indexByte s 47
  · have hrp : rpO s = match zpO (s.take (Lib.indexByte s 47).toNat) with
      | none => none
      | some n => if okNat (s.drop ((Lib.indexByte s 47).toNat + 1)) = true ∧ 2 ≤ dval (s.drop ((Lib.indexByte s 47).toNat + 1)) ∧ Nat.gcd (dval (s.drop ((Lib.indexByte s 47).toNat + 1))) n.natAbs = 1 then some (mkRat n (dval (s.drop ((Lib.indexByte s 47).toNat + 1)))) else none:=by
      conv => lhs;unfold rpO
      rw [if_pos h]
    rw [cutD1,if_pos h] at hc
    have l1 : (s.take (Lib.indexByte s 47).toNat).length < 9223372036854775808:=by rw [List.length_take];omega
    generalize s.take (Lib.indexByte s 47).toNat = a at *
    generalize s.drop ((Lib.indexByte s 47).toNat + 1) = t at *
    have hw:=whole_Parse a l1
    simp (disch:=first|exact dd|fail) only [go_sem,seval]
    refine cA hc ?_
    simp (disch:=first|exact dd|fail) only [go_sem,seval]
    cases hz : zpO a with
    | none =>
      rw [hz] at hrp
      rw [rpD_no hrp]
      rw [zpD_no hz] at hw
      refine cA hw ?_
      simp (disch:=first|exact dd|fail) only [go_sem,seval]
      exact LeV_q1
    | some n =>
      rw [hz] at hrp
      simp only at hrp
      have hzn:=zpO_nb hz
      rw [zpD_yes hz] at hw
      refine cA hw ?_
      simp (disch:=first|exact dd|fail) only [go_sem,seval]
      have hn:=nat_Parse t
      by_cases hok : okNat t = true
      · obtain ⟨hl,hd⟩:=okNat_len hok
        have hnb:=dval_nb _ hd
        rw [npD_yes hok] at hn
        generalize dval t = d at *
        have hbl:=nbit_nb d
        refine cA hn ?_
        by_cases hd2 : d < 2
        · rw [if_neg (fun h => by omega)] at hrp
          rw [rpD_no hrp]
          have hb:=nbit_one hd2
          simp (disch:=first|exact dd|fail) only [go_sem,seval]
          refine cL (nat_Bits (n:=d) (by omega)) ?_
          simp (disch:=first|exact dd|fail) only [go_sem,seval]
          exact LeV_q0
        · have hb:=nbit_two (n:=d) (by omega)
          have hzn' : nb n.natAbs ≤ 4000:=hzn
          have hgle : d.gcd n.natAbs ≤ d:=Nat.le_of_dvd (by omega) (Nat.gcd_dvd_left _ _)
          have hgnb:=nb_mono hgle
          have hgpos : 0 < d.gcd n.natAbs:=Nat.gcd_pos_of_pos_left _ (by omega)
          simp (disch:=first|exact dd|fail) only [go_sem,seval]
          refine cL (nat_Bits (n:=d) (by omega)) ?_
          simp (disch:=first|exact dd|fail) only [go_sem,seval]
          refine cL (whole_Abs n) ?_
          simp (disch:=first|exact dd|fail) only [go_sem,seval]
          refine cL (nat_Gcd (a:=d) (b:=n.natAbs) (by omega) (by omega)) ?_
          simp (disch:=first|exact dd|fail) only [go_sem,seval]
          refine cL (nat_Bits (n:=d.gcd n.natAbs) (by omega)) ?_
          by_cases hg : d.gcd n.natAbs = 1
          · rw [if_pos ⟨hok,by omega,hg⟩] at hrp
            rw [rpD_yes hrp]
            have hb1 : nbit (d.gcd n.natAbs) = 1:=by rw [hg];rfl
            obtain ⟨m0,m1,m2⟩:=mk_parts n d (by omega)
            have mk2:=mk_num (n:=n) (d:=d) (by omega)
            rw [hg,Nat.div_one] at mk2 m2
            rw [mkZ_self] at mk2
            simp (disch:=first|exact dd|fail) only [go_sem,seval,hb1]
            exact LeV.tup (LesV.cons (fin2 _ m2.symm (by rw [m2];omega) mk2) (LesV.refl _))
          · rw [if_neg (fun h => hg h.2.2)] at hrp
            rw [rpD_no hrp]
            have hb1:=nbit_two (n:=d.gcd n.natAbs) (by omega)
            simp (disch:=first|exact dd|fail) only [go_sem,seval]
            exact LeV_q0
      · have hok' : okNat t = false:=by simpa using hok
        rw [if_neg (fun h => hok h.1)] at hrp
        rw [rpD_no hrp]
        rw [npD_no hok'] at hn
        refine cA hn ?_
        simp (disch:=first|exact dd|fail) only [go_sem,seval]
        exact LeV_q0
  · have hrp : rpO s = (zpO s).map fun n : Int => (n : Rat):=by unfold rpO;rw [if_neg h]
    rw [cutD1,if_neg h] at hc
    have hw:=whole_Parse s hs
    simp (disch:=first|exact dd|fail) only [go_sem,seval]
    refine cA hc ?_
    simp (disch:=first|exact dd|fail) only [go_sem,seval]
    cases hz : zpO s with
    | none =>
      rw [hz] at hrp
      rw [rpD_no hrp]
      rw [zpD_no hz] at hw
      refine cA hw ?_
      simp (disch:=first|exact dd|fail) only [go_sem,seval]
      exact LeV_q1
    | some n =>
      rw [hz] at hrp
      rw [rpD_yes hrp]
      rw [zpD_yes hz] at hw
      refine cA hw ?_
      simp (disch:=first|exact dd|fail) only [go_sem,seval]
      exact LeV.tup (LesV.cons (qD_int n) (LesV.refl _))
def dyD (z e : Int) : D:=.agg [u32s (limbs z.natAbs), .bool (decide (z < 0)), .int .i64 e]
section
variable (z e : Int) (h : Hp) (ρ : Nat → Option Nat)
theorem flat_dyD : flat (dyD z e) = false:=Eq.trans rfl rfl
theorem imp_dyD : imp ρ h (dyD z e) = dyD z e:=Eq.trans rfl rfl
theorem refs_dyD : refs ρ (dyD z e) = []:=Eq.trans rfl rfl
theorem asAgg_dyD : asAgg (dyD z e) = some [u32s (limbs z.natAbs), .bool (decide (z < 0)), .int .i64 e]:=Eq.trans rfl rfl
end
attribute [go_sem] flat_dyD imp_dyD refs_dyD asAgg_dyD
theorem LeV_dy0 : LeV (.agg [.nils, .bool false, .int .i64 0]) (dyD 0 0):=by
  refine LeV.agg (LesV.cons ?_ (LesV.refl _))
  rw [Int.natAbs_zero,limbs_zero];exact LeV.nils
theorem tz_le (n : Nat) : tz n ≤ nbit n:=by
  by_cases h : n = 0
  · subst h;rw [tz];simp
  · obtain ⟨a,ha⟩:=tz_spec h
    rcases Nat.lt_or_ge (nbit n) (tz n) with h1 | h1
    · have h2:=(nbit_lt (n:=n) (k:=tz n)).1 (by omega)
      have h3 : 2 ^ tz n * 1 ≤ 2 ^ tz n * (2 * a + 1):=Nat.mul_le_mul_left _ (by omega)
      omega
    · exact h1
def odZ (m : Int) : Int:=if m = 0 then 0 else mkZ (decide (m < 0)) (m.natAbs / 2 ^ shN (tz m.natAbs : Int))
def odE (m e : Int) : Int:=if m = 0 then 0 else e + tz m.natAbs
theorem dyad_odd {m e : Int} (hm : zb m < 100000000) (he : -4000000000 ≤ e ∧ e ≤ 4000000000) : C E 166 [zD m, .int .i64 e] (dyD (odZ m) (odE m e)):=by
  refine CG_intro Tryz.func166 rfl (by kernel_rfl) rfl (by kernel_rfl) (by kernel_rfl) rfl ?_
  have hm' : nb m.natAbs < 100000000:=hm
  by_cases h0 : m = 0
  · subst h0
    have h00 : sgI 0 0 = 0:=rfl
    have e1 : odZ 0 = 0:=rfl
    have e2 : odE 0 e = 0:=rfl
    rw [e1,e2]
    simp (disch:=first|exact dd|fail) only [go_sem,seval]
    refine cA (whole_Sign (z:=0) (by omega)) ?_
    simp (disch:=first|exact dd|fail) only [go_sem,seval,h00]
    exact LeV_dy0
  have hse : (sgI m 0 == 0) = false:=beq_eq_false_iff_ne.2 (by
    rcases (show m < 0 ∨ 0 < m by omega) with h | h
    · rw [sgI_lt h];decide
    · rw [sgI_gt h];decide)
  have hsg:=sg_neg m
  have ht:=tz_le m.natAbs
  have hb:=nbit_nb m.natAbs
  have e1 : odZ m = mkZ (decide (m < 0)) (m.natAbs / 2 ^ shN (tz m.natAbs : Int)):=by unfold odZ;rw [if_neg h0]
  have e2 : odE m e = e + tz m.natAbs:=by unfold odE;rw [if_neg h0]
  have hd:=nb_mono (Nat.div_le_self m.natAbs (2 ^ shN (tz m.natAbs : Int)))
  have hSh:=nat_Shr (a:=m.natAbs) (by omega) (tz m.natAbs : Int)
  have hF:=whole_From (decide (m < 0)) (n:=m.natAbs / 2 ^ shN (tz m.natAbs : Int)) (by omega)
  rw [← e1] at hF
  have hZ:=nat_Zeros (n:=m.natAbs) (by omega)
  rw [e2]
  generalize tz m.natAbs = t at *
  generalize m.natAbs / 2 ^ shN (t : Int) = x at *
  generalize odZ m = y at *
  simp (disch:=first|exact dd|fail) only [go_sem,seval]
  refine cA (whole_Sign (z:=m) (by omega)) ?_
  simp (disch:=first|exact dd|fail) only [go_sem,seval,hse]
  refine cA (whole_Abs m) ?_
  simp (disch:=first|exact dd|fail) only [go_sem,seval]
  refine cA hZ ?_
  simp (disch:=first|exact dd|fail) only [go_sem,seval]
  refine cL (whole_Sign (z:=m) (by omega)) ?_
  simp (disch:=first|exact dd|fail) only [go_sem,seval,hsg]
  refine cL (whole_Abs m) ?_
  simp (disch:=first|exact dd|fail) only [go_sem,seval]
  refine cL hSh ?_
  simp (disch:=first|exact dd|fail) only [go_sem,seval]
  refine cL hF ?_
  simp (disch:=first|exact dd|fail) only [go_sem,seval]
  try exact LeV.refl _
def dyq (q : Rat) : Prop:=tz q.den + 1 = nbit q.den
instance (q : Rat) : Decidable (dyq q):=by unfold dyq;infer_instance
def dyO (q : Rat) : D:=if dyq q then dyD (odZ q.num) (odE q.num (-(tz q.den : Int))) else dyD 0 0
theorem cl_dyO (q : Rat) : cl (dyO q) = true:=by unfold dyO;split <;> rfl
theorem dyad_Of {q : Rat} (hq : qs q) : C E 129 [qD q] (.tup [dyO q, .bool (decide (dyq q))]):=by
  refine CG_intro Tryz.func129 rfl (by kernel_rfl) rfl (by kernel_rfl) (by kernel_rfl) rfl ?_
  have h2:=hq.2
  have ht:=tz_le q.den
  have hb:=nbit_nb q.den
  have hp:=nbit_pos q.den_pos
  have hA:=whole_Abs (q.den : Int)
  rw [Int.natAbs_natCast] at hA
  have hZ:=nat_Zeros (n:=q.den) (by omega)
  have hB:=nat_Bits (n:=q.den) (by omega)
  have hO:=dyad_odd (m:=q.num) (e:=-(tz q.den : Int)) hq.1 (by omega)
  simp (disch:=first|exact dd|fail) only [go_sem,seval]
  refine cA (rat_Den hq) ?_
  simp (disch:=first|exact dd|fail) only [go_sem,seval]
  refine cA hA ?_
  simp (disch:=first|exact dd|fail) only [go_sem,seval]
  refine cL hZ ?_
  simp (disch:=first|exact dd|fail) only [go_sem,seval]
  refine cL hB ?_
  by_cases h : dyq q
  · have e : dyO q = dyD (odZ q.num) (odE q.num (-(tz q.den : Int))):=by unfold dyO;rw [if_pos h]
    rw [e,decide_eq_true h]
    unfold dyq at h
    simp (disch:=first|exact dd|fail) only [go_sem,seval]
    refine cL (rat_Num q) ?_
    simp (disch:=first|exact dd|fail) only [go_sem,seval]
    refine cL hZ ?_
    simp (disch:=first|exact dd|fail) only [go_sem,seval]
    refine callCl hO ?_ rfl ?_
    · simp (disch:=first|exact dd|fail) only [go_sem,seval]
      try exact LesV.cons (LeV.refl _) (LesV.cons (LeV_int (by omega)) LesV.nil)
    simp (disch:=first|exact dd|fail) only [go_sem,seval]
    try exact LeV.refl _
  · have e : dyO q = dyD 0 0:=by unfold dyO;rw [if_neg h]
    rw [e,decide_eq_false h]
    unfold dyq at h
    simp (disch:=first|exact dd|fail) only [go_sem,seval]
    exact LeV.tup (LesV.cons LeV_dy0 (LesV.refl _))
theorem ref_pos (n : Nat) : C E 123 [nD n] (iD (n : Int)):=by
  refine CG_intro Tryz.func123 rfl (by kernel_rfl) rfl (by kernel_rfl) (by kernel_rfl) rfl ?_
  have e : iD (n : Int) = .agg [.bool false,nD n]:=by rw [iD,Int.natAbs_natCast,decide_eq_false (by omega)]
  rw [e]
  simp (disch:=first|exact dd|fail) only [go_sem,seval]
def rqD (q : Rat) : D:=.agg [.bool (decide (q.num < 0)),nD q.num.natAbs,nD q.den]
section
variable (q : Rat) (h : Hp) (ρ : Nat → Option Nat) (r : Nat → Nat)
theorem asAgg_rq : asAgg (rqD q) = some [.bool (decide (q.num < 0)),nD q.num.natAbs,nD q.den]:=Eq.trans rfl rfl
end
attribute [go_sem] asAgg_rq
theorem ref_Den {q : Rat} (hq : qs q) : C E 104 [rqD q] (nD q.den):=by
  refine CG_intro Tryz.func104 rfl (by kernel_rfl) rfl (by kernel_rfl) (by kernel_rfl) rfl ?_
  have h1:=nb_pos.2 q.den_pos
  have h2:=hq.2
  have hlen : (limbs q.den).length = nb q.den:=rfl
  simp (disch:=first|exact dd|fail) only [go_sem,seval,nD,u32s,hlen]
def riD (s : List UInt8) : D:=.tup [iD ((zpO s).getD 0), .bool (zpO s).isSome]
theorem riD_no {s : List UInt8} (h : zpO s = none) : riD s = .tup [iD 0, .bool false]:=by rw [riD,h];rfl
theorem riD_yes {s : List UInt8} {z : Int} (h : zpO s = some z) : riD s = .tup [iD z, .bool true]:=by rw [riD,h];rfl
theorem LeV_i0' : LeV (.agg [.bool false, .nils]) (iD 0):=LeV.agg (LesV.cons (LeV.refl _) (LesV.cons nD_zero LesV.nil))
theorem LeV_i0 (b : Bool) : LeV (.tup [.agg [.bool false, .nils], .bool b]) (.tup [iD 0, .bool b]):=LeV.tup (LesV.cons LeV_i0' (LesV.refl _))
theorem iD_nat (n : Nat) : iD (n : Int) = .agg [.bool false,nD n]:=by rw [iD,Int.natAbs_natCast,decide_eq_false (by omega)]
theorem iD_neg {n : Nat} (h : n ≠ 0) : iD (-(n : Int)) = .agg [.bool true,nD n]:=by rw [iD,Int.natAbs_neg,Int.natAbs_natCast,decide_eq_true (by omega)]
theorem ref_IntParse (s : List UInt8) (hs : s.length < 9223372036854775808) : C E 127 [.str s] (riD s):=by
  refine CG_intro Tryz.func127 rfl (by kernel_rfl) rfl (by kernel_rfl) (by kernel_rfl) rfl ?_
  have t2 : ((s.length : Nat) : Int).toNat = s.length:=by omega
  have tail : ∀ {Q : Prop},(okNat s = true → Q) → (okNat s = false → Q) → Q:=fun {Q} a b => by
    cases h : okNat s
    · exact b h
    · exact a h
  by_cases h0 : s = []
  · subst h0
    have e : ([] : List UInt8).length = 0:=rfl
    have hz : zpO [] = none:=rfl
    have hn:=ref_NatParse [] (by simp)
    rw [rnD_no rfl] at hn
    rw [riD_no hz]
    simp (disch:=first|exact dd|fail) only [go_sem,seval,e]
    refine cA hn ?_
    simp (disch:=first|exact dd|fail) only [go_sem,seval]
    exact LeV_i0 _
  have hpos : 0 < s.length:=List.length_pos_iff.2 h0
  have hc0:=(s.getD 0 0).toNat_lt
  by_cases h1 : (s.getD 0 0).toNat = 45
  · have hn:=ref_NatParse (s.drop 1) (by rw [List.length_drop];omega)
    by_cases hok : okNat (s.drop 1) = true
    · obtain ⟨hl,hd⟩:=okNat_len hok
      have hnb:=dval_nb _ hd
      rw [rnD_yes hok] at hn
      have hlen : (limbs (dval (s.drop 1))).length = nb (dval (s.drop 1)):=rfl
      have hp:=nb_pos (n:=dval (s.drop 1))
      by_cases hz : dval (s.drop 1) = 0
      · have ez : zpO s = none:=by unfold zpO;rw [if_pos ⟨h0,h1⟩,if_neg (fun h => h.2 hz)]
        rw [riD_no ez]
        have hl0 : (limbs 0).length = 0:=by rw [limbs_zero];rfl
        rw [hz] at hn
        simp (disch:=first|exact dd|fail) only [go_sem,seval,h1,t2,List.take_length]
        refine cA hn ?_
        simp (disch:=first|exact dd|fail) only [go_sem,seval,nD,u32s,hl0]
        exact LeV_i0 _
      · have ez : zpO s = some (-(dval (s.drop 1) : Int)):=by unfold zpO;rw [if_pos ⟨h0,h1⟩,if_pos ⟨hok,hz⟩]
        rw [riD_yes ez,iD_neg hz]
        have hp1:=hp.2 (by omega)
        generalize dval (s.drop 1) = d at *
        simp (disch:=first|exact dd|fail) only [go_sem,seval,h1,t2,List.take_length]
        refine cA hn ?_
        simp (disch:=first|exact dd|fail) only [go_sem,seval,nD,u32s,hlen]
    · have hok' : okNat (s.drop 1) = false:=by simpa using hok
      have ez : zpO s = none:=by unfold zpO;rw [if_pos ⟨h0,h1⟩,if_neg (fun h => hok h.1)]
      rw [riD_no ez]
      rw [rnD_no hok'] at hn
      simp (disch:=first|exact dd|fail) only [go_sem,seval,h1,t2,List.take_length]
      refine cA hn ?_
      simp (disch:=first|exact dd|fail) only [go_sem,seval]
      exact LeV_i0 _
  · have hn:=ref_NatParse s hs
    have hne : (((s.getD 0 0).toNat : Int) == 45) = false:=beq_eq_false_iff_ne.2 (by omega)
    by_cases hok : okNat s = true
    · have ez : zpO s = some (dval s : Int):=by unfold zpO;rw [if_neg (fun h => h1 h.2),if_pos hok]
      rw [riD_yes ez,iD_nat]
      rw [rnD_yes hok] at hn
      generalize dval s = d at *
      simp (disch:=first|exact dd|fail) only [go_sem,seval,hne]
      refine cA hn ?_
      simp (disch:=first|exact dd|fail) only [go_sem,seval]
    · have hok' : okNat s = false:=by simpa using hok
      have ez : zpO s = none:=by unfold zpO;rw [if_neg (fun h => h1 h.2),if_neg hok]
      rw [riD_no ez]
      rw [rnD_no hok'] at hn
      simp (disch:=first|exact dd|fail) only [go_sem,seval,hne]
      refine cA hn ?_
      simp (disch:=first|exact dd|fail) only [go_sem,seval]
      exact LeV_i0 _
theorem ib_none : ∀ (s : List UInt8) (c : UInt8),(∀ j,j < s.length → s.getD j 0 ≠ c) → Lib.indexByte s c = -1
  | [],c,_ => rfl
  | b :: l,c,h => by
    have h0:=h 0 (by simp)
    rw [List.getD_cons_zero] at h0
    have ih:=ib_none l c fun j hj => by
      have:=h (j + 1) (by simp;omega)
      rwa [List.getD_cons_succ] at this
    have e : (b == c) = false:=beq_eq_false_iff_ne.2 h0
    simp [Lib.indexByte,e,ih]
theorem ib_some : ∀ (s : List UInt8) (c : UInt8) (i : Nat),i < s.length → s.getD i 0 = c → (∀ j,j < i → s.getD j 0 ≠ c) → Lib.indexByte s c = i
  | [],c,i,hi,_,_ => by simp at hi
  | b :: l,c,0,hi,h,_ => by
    rw [List.getD_cons_zero] at h
    simp [Lib.indexByte,h]
  | b :: l,c,i + 1,hi,h,hn => by
    have h0:=hn 0 (by omega)
    rw [List.getD_cons_zero] at h0
    rw [List.getD_cons_succ] at h
    have ih:=ib_some l c i (by simpa using hi) h fun j hj => by
      have:=hn (j + 1) (by omega)
      rwa [List.getD_cons_succ] at this
    have e : (b == c) = false:=beq_eq_false_iff_ne.2 h0
    have e2 : ¬ ((i : Int) = -1):=by omega
    simp [Lib.indexByte,e,ih,e2]
def rrD (s : List UInt8) : D:=match rpO s with
  | some q => .tup [rqD q, .bool true]
  | none => .tup [.agg [.bool false,nD 0,nD (if 0 ≤ Lib.indexByte s 47 then 0 else 1)], .bool false]
theorem rrD_yes {s : List UInt8} {q : Rat} (h : rpO s = some q) : rrD s = .tup [rqD q, .bool true]:=by unfold rrD;rw [h]
theorem rrD_no {s : List UInt8} (h : rpO s = none) : rrD s = .tup [.agg [.bool false,nD 0,nD (if 0 ≤ Lib.indexByte s 47 then 0 else 1)], .bool false]:=by unfold rrD;rw [h]
theorem rqD_int (n : Int) : rqD (n : Rat) = .agg [.bool (decide (n < 0)),nD n.natAbs,nD 1]:=by rw [rqD,Rat.num_intCast,Rat.den_intCast]
theorem LeV_r0 : LeV (.tup [.agg [.bool false, .nils, .nils], .bool false]) (.tup [.agg [.bool false,nD 0,nD 0], .bool false]):=
  LeV.tup (LesV.cons (LeV.agg (LesV.cons (LeV.refl _) (LesV.cons nD_zero (LesV.cons nD_zero LesV.nil)))) (LesV.refl _))
def SkP (s : List UInt8) (x : Nat × Int) : Prop:=x.1 ≤ s.length ∧ ((x.2 = -1 ∧ ∀ j,j < x.1 → s.getD j 0 ≠ 47) ∨ (0 ≤ x.2 ∧ x.2 = Lib.indexByte s 47))
theorem ref_RatParse (s : List UInt8) (hs : s.length < 9223372036854775808) : C E 86 [.str s] (rrD s):=by
  refine CG_intro Tryz.func86 rfl (by kernel_rfl) rfl (by kernel_rfl) (by kernel_rfl) rfl ?_
  simp (disch:=first|exact dd|fail) only [go_sem,seval]
  refine AL.of (SkP s) (fun x => s.length - x.1) (fun x => [(0, .str s),(2, .ad 0 0),(4, .int .i64 x.2),(5, .int .i64 x.1)]) (fun _ => [(0, .var true 3 (.agg [.bool false, .nils, .nils]))]) (0, -1) ⟨Nat.zero_le _, .inl ⟨rfl,fun j hj => by omega⟩⟩ ?_ ?_ ?_ ?_
  · simp (disch:=first|exact dd|fail) only [go_sem,seval]
  · simp (disch:=first|exact dd|fail) only [go_sem,seval]
  · intro x _;simp (disch:=first|exact dd|fail) only [go_sem,seval]
  rintro ⟨i,at'⟩ ⟨hi,hat⟩
  simp only at hi hat
  obtain ⟨b1,b2⟩:=ib_lt s 47
  have hlow : at' < (s.length : Int):=by rcases hat with ⟨h,_⟩ | ⟨_,h⟩ <;> omega
  by_cases ha : at' < 0
  · obtain ⟨hm,hno⟩ : at' = -1 ∧ ∀ j,j < i → s.getD j 0 ≠ 47:=by
      rcases hat with h | ⟨h,_⟩
      · exact h
      · omega
    subst hm
    by_cases hil : i = s.length
    · subst hil
      have hib:=ib_none s 47 hno
      have hrp : rpO s = (zpO s).map fun n : Int => (n : Rat):=by unfold rpO;rw [if_neg (by omega)]
      have hw:=ref_IntParse s hs
      have hO:=ref_NatOf (v:=1) (by omega)
      simp (disch:=first|exact dd|fail) only [go_sem,seval]
      cases hz : zpO s with
      | none =>
        rw [hz] at hrp
        rw [rrD_no hrp,if_neg (by omega)]
        rw [riD_no hz] at hw
        refine cA hw ?_
        simp (disch:=first|exact dd|fail) only [go_sem,seval]
        refine cL hO ?_
        simp (disch:=first|exact dd|fail) only [go_sem,seval]
        try exact LeV.refl _
      | some n =>
        rw [hz] at hrp
        rw [rrD_yes hrp,rqD_int]
        rw [riD_yes hz] at hw
        refine cA hw ?_
        simp (disch:=first|exact dd|fail) only [go_sem,seval]
        refine cL hO ?_
        simp (disch:=first|exact dd|fail) only [go_sem,seval]
    · have hi' : i < s.length:=by omega
      have ei : ((i : Nat) : Int).toNat = i:=by omega
      have hcl:=(s.getD i 0).toNat_lt
      by_cases hc : (s.getD i 0).toNat = 47
      · have hib:=ib_some s 47 i hi' (by rw [← UInt8.toNat_inj];exact hc) hno
        simp (disch:=first|exact dd|fail) only [go_sem,seval,ei,hc]
        refine ⟨(i + 1,(i : Int)),⟨hi', .inr ⟨by show (0 : Int) ≤ i;omega,hib.symm⟩⟩,by show s.length - (i + 1) < s.length - i;omega, ?_, ?_⟩
        · simp (disch:=first|exact dd|fail) only [go_sem,seval]
          try exact LeV_int (by omega)
        · simp (disch:=first|exact dd|fail) only [go_sem,seval]
      · simp (disch:=first|exact dd|fail) only [go_sem,seval,ei]
        refine ⟨(i + 1, -1),⟨hi', .inl ⟨rfl,fun j hj => ?_⟩⟩,by show s.length - (i + 1) < s.length - i;omega, ?_, ?_⟩
        · have hj : j < i + 1:=hj
          rcases (show j < i ∨ j = i by omega) with h | h
          · exact hno j h
          · subst h;intro e;rw [e] at hc;exact hc rfl
        · simp (disch:=first|exact dd|fail) only [go_sem,seval]
          try exact LeV_int (by omega)
        · simp (disch:=first|exact dd|fail) only [go_sem,seval]
  · obtain ⟨h0,hib⟩ : 0 ≤ at' ∧ at' = Lib.indexByte s 47:=by
      rcases hat with ⟨h,_⟩ | h
      · omega
      · exact h
    clear hat hlow
    have hrp : rpO s = match zpO (s.take (Lib.indexByte s 47).toNat) with
      | none => none
      | some n => if okNat (s.drop ((Lib.indexByte s 47).toNat + 1)) = true ∧ 2 ≤ dval (s.drop ((Lib.indexByte s 47).toNat + 1)) ∧ Nat.gcd (dval (s.drop ((Lib.indexByte s 47).toNat + 1))) n.natAbs = 1 then some (mkRat n (dval (s.drop ((Lib.indexByte s 47).toNat + 1)))) else none:=by
      conv => lhs;unfold rpO
      rw [if_pos (by omega)]
      try rfl
    have hno : (if 0 ≤ Lib.indexByte s 47 then 0 else 1) = 0:=if_pos (by omega)
    have hrn:=fun h => @rrD_no s h
    rw [hno] at hrn
    rw [← hib] at hrp b1
    clear hib hno b2
    obtain ⟨k,rfl⟩:=Int.eq_ofNat_of_zero_le h0
    have ek : ((k : Nat) : Int).toNat = k:=by omega
    have ek1 : ((k : Int) + 1).toNat = k + 1:=by omega
    have t2 : ((s.length : Nat) : Int).toNat = s.length:=by omega
    rw [ek] at hrp
    have hw:=ref_IntParse (s.take k) (by rw [List.length_take];omega)
    have hn:=ref_NatParse (s.drop (k + 1)) (by rw [List.length_drop];omega)
    have hO:=ref_NatOf (v:=1) (by omega)
    rcases (show i < s.length ∨ i = s.length by omega) with hil | hil
    all_goals
      simp (disch:=first|exact dd|fail) only [go_sem,seval,ek,ek1,t2,List.take_length,List.drop_zero]
      generalize s.take k = a at *
      generalize ht : s.drop (k + 1) = t at *
      cases hz : zpO a with
      | none =>
        rw [hz] at hrp
        rw [hrn hrp]
        rw [riD_no hz] at hw
        refine cA hw ?_
        simp (disch:=first|exact dd|fail) only [go_sem,seval,ek,ek1,t2,List.take_length,ht]
        by_cases hok : okNat t = true
        · rw [rnD_yes hok] at hn
          generalize dval t = d at *
          refine cA hn ?_
          simp (disch:=first|exact dd|fail) only [go_sem,seval]
          exact LeV_r0
        · rw [rnD_no (by simpa using hok)] at hn
          refine cA hn ?_
          simp (disch:=first|exact dd|fail) only [go_sem,seval]
          exact LeV_r0
      | some n =>
        rw [hz] at hrp
        simp only at hrp
        have hzn:=zpO_nb hz
        rw [riD_yes hz] at hw
        refine cA hw ?_
        simp (disch:=first|exact dd|fail) only [go_sem,seval,ek,ek1,t2,List.take_length,ht]
        by_cases hok : okNat t = true
        · obtain ⟨hl,hdg⟩:=okNat_len hok
          have hnb:=dval_nb _ hdg
          rw [rnD_yes hok] at hn
          generalize dval t = d at *
          have h1nb : nb 1 ≤ 1:=nb_lt.2 (by omega)
          have hcm : decide (sgI (d : Int) 1 ≤ 0) = decide (d ≤ 1):=sgI_le d 1
          refine cA hn ?_
          simp (disch:=first|exact dd|fail) only [go_sem,seval]
          refine cA hO ?_
          simp (disch:=first|exact dd|fail) only [go_sem,seval]
          refine cA (ref_CmpNat (a:=d) (b:=1) (by omega) (by omega)) ?_
          by_cases hd2 : d ≤ 1
          · rw [if_neg (fun h => by omega)] at hrp
            rw [hrn hrp]
            rw [decide_eq_true hd2] at hcm
            simp (disch:=first|exact dd|fail) only [go_sem,seval,hcm]
            exact LeV_r0
          · have hzn' : nb n.natAbs ≤ 4000:=hzn
            have hgle : d.gcd n.natAbs ≤ d:=Nat.le_of_dvd (by omega) (Nat.gcd_dvd_left _ _)
            have hgnb:=nb_mono hgle
            rw [decide_eq_false hd2] at hcm
            have hG:=ref_Gcd (a:=d) (b:=n.natAbs) (by omega) (by omega)
            simp (disch:=first|exact dd|fail) only [go_sem,seval,hcm]
            refine cA hG ?_
            simp (disch:=first|exact dd|fail) only [go_sem,seval]
            refine cA hO ?_
            simp (disch:=first|exact dd|fail) only [go_sem,seval]
            refine cA (ref_CmpNat (a:=d.gcd n.natAbs) (b:=1) (by omega) (by omega)) ?_
            by_cases hg : d.gcd n.natAbs = 1
            · rw [if_pos ⟨hok,by omega,hg⟩] at hrp
              rw [rrD_yes hrp]
              have hs1 : sgI ((d.gcd n.natAbs : Nat) : Int) 1 = 0:=by rw [hg];rfl
              obtain ⟨m0,m1,m2⟩:=mk_parts n d (by omega)
              have mk2:=mk_num (n:=n) (d:=d) (by omega)
              rw [hg,Nat.div_one] at mk2 m2
              rw [mkZ_self] at mk2
              have hrq : rqD (mkRat n d) = .agg [.bool (decide (n < 0)),nD n.natAbs,nD d]:=by rw [rqD,← mk2,m2]
              rw [hrq]
              simp (disch:=first|exact dd|fail) only [go_sem,seval,hs1]
            · rw [if_neg (fun h => hg h.2.2)] at hrp
              rw [hrn hrp]
              have hs1 : (sgI ((d.gcd n.natAbs : Nat) : Int) 1 == 0) = false:=by
                rcases (show d.gcd n.natAbs < 1 ∨ 1 < d.gcd n.natAbs by omega) with h | h
                · rw [sgI_lt (by omega)];rfl
                · rw [sgI_gt (by omega)];rfl
              have hs2 : (sgI ((d.gcd n.natAbs : Nat) : Int) 1 != 0) = true:=by rw [bne,hs1];rfl
              simp (disch:=first|exact dd|fail) only [go_sem,seval,hs1,hs2]
              exact LeV_r0
        · rw [if_neg (fun h => hok h.1)] at hrp
          rw [hrn hrp]
          rw [rnD_no (by simpa using hok)] at hn
          refine cA hn ?_
          simp (disch:=first|exact dd|fail) only [go_sem,seval]
          exact LeV_r0
def sD (p : Rat × Rat) : D:=.agg [u32s (limbs p.1.num.natAbs), .bool (decide (p.1.num < 0)),u32s (limbs (qden p.1)),u32s (limbs p.2.num.natAbs), .bool (decide (p.2.num < 0)),u32s (limbs (qden p.2))]
section
variable (p : Rat × Rat) (h : Hp) (ρ : Nat → Option Nat)
theorem cl_sD : cl (sD p) = true:=Eq.trans rfl rfl
theorem flat_sD : flat (sD p) = false:=Eq.trans rfl rfl
theorem imp_sD : imp ρ h (sD p) = sD p:=Eq.trans rfl rfl
theorem asAgg_sD : asAgg (sD p) = some [u32s (limbs p.1.num.natAbs), .bool (decide (p.1.num < 0)),u32s (limbs (qden p.1)),u32s (limbs p.2.num.natAbs), .bool (decide (p.2.num < 0)),u32s (limbs (qden p.2))]:=Eq.trans rfl rfl
end
attribute [go_sem] cl_sD flat_sD imp_sD asAgg_sD
theorem LeV_s0 : LeV (.agg [.nils, .bool false, .nils, .nils, .bool false, .nils]) (sD (0,0)):=by
  have e : qden 0 = 0:=rfl
  have e2 : (0 : Rat).num = 0:=rfl
  rw [sD,e,e2,Int.natAbs_zero,limbs_zero]
  exact LeV.agg (LesV.cons LeV.nils (LesV.cons (LeV.refl _) (LesV.cons LeV.nils (LesV.cons LeV.nils (LesV.cons (LeV.refl _) (LesV.cons LeV.nils LesV.nil))))))
theorem sgQ_gt (a b : Rat) : decide (sgQ a b > 0) = decide (b < a):=by
  unfold sgQ
  by_cases h : a < b
  · rw [if_pos h];exact (decide_eq_false (by grind)).symm
  · rw [if_neg h]
    by_cases h' : a = b
    · rw [if_pos h'];exact (decide_eq_false (by grind)).symm
    · rw [if_neg h'];exact (decide_eq_true (by grind)).symm
theorem sgQ_ge (a b : Rat) : decide (sgQ a b ≥ 0) = decide (b ≤ a):=by
  unfold sgQ
  by_cases h : a < b
  · rw [if_pos h];exact (decide_eq_false (by grind)).symm
  · rw [if_neg h]
    by_cases h' : a = b
    · rw [if_pos h'];exact (decide_eq_true (by grind)).symm
    · rw [if_neg h'];exact (decide_eq_true (by grind)).symm
theorem span_New {a b : Rat} (ha : qs a) (hb : qs b) : C E 92 [qD a,qD b] (.tup [sD (if b < a then (0,0) else (a,b)), .bool (decide (¬ b < a))]):=by
  refine CG_intro Tryz.func92 rfl (by kernel_rfl) rfl (by kernel_rfl) (by kernel_rfl) rfl ?_
  have hg:=sgQ_gt a b
  simp (disch:=first|exact dd|fail) only [go_sem,seval]
  refine cA (rat_Cmp ha hb) ?_
  by_cases h : b < a
  · rw [decide_eq_true h] at hg
    have e : decide (¬ b < a) = false:=decide_eq_false (fun h' => h' h)
    rw [if_pos h,e]
    simp (disch:=first|exact dd|fail) only [go_sem,seval,hg]
    exact LeV.tup (LesV.cons LeV_s0 (LesV.refl _))
  · rw [decide_eq_false h] at hg
    have e : decide (¬ b < a) = true:=decide_eq_true h
    rw [if_neg h,e]
    simp (disch:=first|exact dd|fail) only [go_sem,seval,hg]
    exact LeV.refl _
def spR (lo hi : List UInt8) : (Rat × Rat) × Int:=match rpO lo,rpO hi with
  | some a,some b => if b < a then ((0,0),1) else ((a,b),0)
  | _,_ => ((0,0),2)
theorem rpO_qb {s : List UInt8} {q : Rat} (h : rpO s = some q) : qb 4001 q:=by
  unfold rpO at h
  split at h
  · cases hz : zpO (s.take (Lib.indexByte s 47).toNat) with
    | none => rw [hz] at h;cases h
    | some n =>
      rw [hz] at h
      simp only at h
      split at h
      · rename_i hc
        obtain ⟨hl,hd⟩:=okNat_len hc.1
        have hnb:=dval_nb _ hd
        have hzn:=zpO_nb hz
        cases h
        obtain ⟨h1,h2⟩:=mk_num_le n (d:=dval (s.drop ((Lib.indexByte s 47).toNat + 1))) (by omega)
        exact ⟨by omega,by omega⟩
      · cases h
  · rw [Option.map_eq_some_iff] at h
    obtain ⟨n,hz,rfl⟩:=h
    have hzn:=zpO_nb hz
    have h1 : nb 1 ≤ 1:=nb_lt.2 (by omega)
    refine ⟨?_, ?_⟩
    · rw [Rat.num_intCast];omega
    · rw [Rat.den_intCast];omega
theorem span_Parse (lo hi : List UInt8) (h1 : lo.length < 9223372036854775808) (h2 : hi.length < 9223372036854775808) : C E 48 [.agg [.str lo, .str hi]] (.tup [sD (spR lo hi).1, .int .i64 (spR lo hi).2]):=by
  refine CG_intro Tryz.func48 rfl (by kernel_rfl) rfl (by kernel_rfl) (by kernel_rfl) rfl ?_
  have p1:=rat_Parse lo h1
  have p2:=rat_Parse hi h2
  cases ha : rpO lo with
  | none =>
    have e : spR lo hi = ((0,0),2):=by unfold spR;rw [ha]
    rw [e]
    rw [rpD_no ha] at p1
    simp (disch:=first|exact dd|fail) only [go_sem,seval]
    refine cA p1 ?_
    simp (disch:=first|exact dd|fail) only [go_sem,seval]
    exact LeV.tup (LesV.cons LeV_s0 (LesV.refl _))
  | some a =>
    rw [rpD_yes ha] at p1
    cases hb : rpO hi with
    | none =>
      have e : spR lo hi = ((0,0),2):=by unfold spR;rw [ha,hb]
      rw [e]
      rw [rpD_no hb] at p2
      simp (disch:=first|exact dd|fail) only [go_sem,seval]
      refine cA p1 ?_
      simp (disch:=first|exact dd|fail) only [go_sem,seval]
      refine cA p2 ?_
      simp (disch:=first|exact dd|fail) only [go_sem,seval]
      exact LeV.tup (LesV.cons LeV_s0 (LesV.refl _))
    | some b =>
      have e : spR lo hi = if b < a then ((0,0),1) else ((a,b),0):=by unfold spR;rw [ha,hb]
      rw [e]
      rw [rpD_yes hb] at p2
      have hN:=span_New ((rpO_qb ha).qs (by omega)) ((rpO_qb hb).qs (by omega))
      simp (disch:=first|exact dd|fail) only [go_sem,seval]
      refine cA p1 ?_
      simp (disch:=first|exact dd|fail) only [go_sem,seval]
      refine cA p2 ?_
      simp (disch:=first|exact dd|fail) only [go_sem,seval]
      refine cA hN ?_
      by_cases h : b < a
      · have e1 : decide (¬ b < a) = false:=decide_eq_false (fun h' => h' h)
        rw [if_pos h,if_pos h,e1]
        simp (disch:=first|exact dd|fail) only [go_sem,seval]
        exact LeV.tup (LesV.cons LeV_s0 (LesV.refl _))
      · have e1 : decide (¬ b < a) = true:=decide_eq_true h
        rw [if_neg h,if_neg h,e1]
        simp (disch:=first|exact dd|fail) only [go_sem,seval]
        try exact LeV.refl _
def pR (l : List (Rat × Rat)) : Nat → D:=fun i => sD (l.getD i (0,0))
def bxD (l : List (Rat × Rat)) : D:=.ro true 6 l.length (pR l)
section
variable (l : List (Rat × Rat)) (h : Hp) (ρ : Nat → Option Nat)
theorem flat_bx : flat (bxD l) = false:=Eq.trans rfl rfl
theorem imp_bx : imp ρ h (bxD l) = bxD l:=Eq.trans rfl rfl
theorem refs_bx : refs ρ (bxD l) = []:=Eq.trans rfl rfl
theorem one_bx : one h (bxD l) = true:=Eq.trans rfl rfl
end
attribute [go_sem] flat_bx imp_bx refs_bx one_bx
def sideR (lo hi : List UInt8) : (Rat × Rat) × Int:=
  if (spR lo hi).2 ≠ 0 then ((0,0),(spR lo hi).2) else if (spR lo hi).1.2 ≤ (spR lo hi).1.1 then ((0,0),1) else if dyq (spR lo hi).1.1 ∧ dyq (spR lo hi).1.2 then ((spR lo hi).1,0) else ((0,0),2)
theorem spR_qb (lo hi : List UInt8) : qb 4001 (spR lo hi).1.1 ∧ qb 4001 (spR lo hi).1.2 ∧ ((spR lo hi).2 = 0 ∨ (spR lo hi).2 = 1 ∨ (spR lo hi).2 = 2):=by
  have h0 : qb 4001 (0 : Rat):=by
    have h1 : nb 0 ≤ 0:=nb_lt.2 (by omega)
    have h2 : nb 1 ≤ 1:=nb_lt.2 (by omega)
    exact ⟨by show nb 0 ≤ _;omega,by show nb 1 ≤ _;omega⟩
  unfold spR
  split
  · rename_i a b ha hb
    split
    · exact ⟨h0,h0, .inr (.inl rfl)⟩
    · exact ⟨rpO_qb ha,rpO_qb hb, .inl rfl⟩
  · exact ⟨h0,h0, .inr (.inr rfl)⟩
theorem box_side (lo hi : List UInt8) (h1 : lo.length < 9223372036854775808) (h2 : hi.length < 9223372036854775808) : C E 88 [.agg [.str lo, .str hi]] (.tup [sD (sideR lo hi).1, .int .i64 (sideR lo hi).2]):=by
  refine CG_intro Tryz.func88 rfl (by kernel_rfl) rfl (by kernel_rfl) (by kernel_rfl) rfl ?_
  have hP:=span_Parse lo hi h1 h2
  obtain ⟨q1,q2,q3⟩:=spR_qb lo hi
  unfold sideR
  generalize spR lo hi = s at *
  obtain ⟨⟨a,b⟩,e⟩:=s
  simp only at q1 q2 q3 hP ⊢
  have s1:=q1.qs (by omega)
  have s2:=q2.qs (by omega)
  have d1:=dyad_Of s1
  have d2:=dyad_Of s2
  have c1:=cl_dyO a
  have c2:=cl_dyO b
  have k1 : ∀ q : Rat,∃ z e,dyO q = dyD z e:=fun q => by
    unfold dyO
    split
    · exact ⟨_,_,rfl⟩
    · exact ⟨_,_,rfl⟩
  obtain ⟨z1,e1,k1a⟩:=k1 a
  obtain ⟨z2,e2,k1b⟩:=k1 b
  rw [k1a] at d1
  rw [k1b] at d2
  have hge:=sgQ_ge a b
  simp (disch:=first|exact dd|fail) only [go_sem,seval]
  refine cA hP ?_
  simp (disch:=first|exact dd|fail) only [go_sem,seval]
  refine cA d1 ?_
  simp (disch:=first|exact dd|fail) only [go_sem,seval]
  refine cA d2 ?_
  by_cases he : e = 0
  · subst he
    rw [if_neg (by simp)]
    simp (disch:=first|exact dd|fail) only [go_sem,seval]
    refine cA (rat_Cmp s1 s2) ?_
    by_cases hle : b ≤ a
    · rw [if_pos hle]
      rw [decide_eq_true hle] at hge
      simp (disch:=first|exact dd|fail) only [go_sem,seval,hge]
      exact LeV.tup (LesV.cons LeV_s0 (LesV.refl _))
    · rw [if_neg hle]
      rw [decide_eq_false hle] at hge
      by_cases hd1 : dyq a
      · have t1 : decide (dyq a) = true:=decide_eq_true hd1
        by_cases hd2 : dyq b
        · have t2 : decide (dyq b) = true:=decide_eq_true hd2
          rw [if_pos ⟨hd1,hd2⟩]
          simp (disch:=first|exact dd|fail) only [go_sem,seval,hge,t1,t2]
        · have t2 : decide (dyq b) = false:=decide_eq_false hd2
          rw [if_neg (fun h => hd2 h.2)]
          simp (disch:=first|exact dd|fail) only [go_sem,seval,hge,t1,t2]
          exact LeV.tup (LesV.cons LeV_s0 (LesV.refl _))
      · have t1 : decide (dyq a) = false:=decide_eq_false hd1
        rw [if_neg (fun h => hd1 h.1)]
        simp (disch:=first|exact dd|fail) only [go_sem,seval,hge,t1]
        exact LeV.tup (LesV.cons LeV_s0 (LesV.refl _))
  · rw [if_pos he]
    have hne : (e == 0) = false:=beq_eq_false_iff_ne.2 he
    simp (disch:=first|exact dd|fail) only [go_sem,seval,hne]
    exact LeV.tup (LesV.cons LeV_s0 (LesV.refl _))
def rightB (l : List (Rat × Rat)) : Bool:=(l.all fun p => decide (p.1 < p.2)) && decide (1 ≤ l.length) && decide (l.length ≤ 3)
abbrev Txt:=List UInt8
def txR (l : List (Txt × Txt)) : Nat → D:=fun i => .agg [.str (l.getD i ([],[])).1, .str (l.getD i ([],[])).2]
def txD (l : List (Txt × Txt)) : D:=.ro true 2 l.length (txR l)
theorem cl_tx (l : List (Txt × Txt)) : cl (txD l) = true:=Eq.trans rfl rfl
theorem flat_tx (l : List (Txt × Txt)) : flat (txD l) = false:=Eq.trans rfl rfl
def sidesR (l : List (Txt × Txt)) : List (Rat × Rat) × Int:=match l.find? fun p => decide ((sideR p.1 p.2).2 ≠ 0) with
  | some p => ([],(sideR p.1 p.2).2)
  | none => (l.map fun p => (sideR p.1 p.2).1,0)
def boxR (l : List (Txt × Txt)) : List (Rat × Rat) × Int:=if l.length < 1 ∨ 3 < l.length then ([],1) else sidesR l
def boxD (r : List (Rat × Rat) × Int) : D:=.tup [if r.2 = 0 then bxD r.1 else .nils, .int .i64 r.2]
theorem pR_snoc {w : List (Rat × Rat)} {d : Rat × Rat} {j n : Nat} (hn : w.length = n) (hj : j < n + 1) : (if j < n then pR w j else [sD d].getD (j - n) .unk) = pR (w ++ [d]) j:=by
  unfold pR
  by_cases h : j < n
  · rw [if_pos h,List.getD_eq_getElem?_getD,List.getD_eq_getElem?_getD,List.getElem?_append_left (by omega)]
  · rw [if_neg h,List.getD_eq_getElem?_getD (l:=w ++ [d]),List.getElem?_append_right (by omega),hn,show j - n = 0 by omega]
    rfl
def BpP (l : List (Txt × Txt)) (s : Nat × List (Rat × Rat)) : Prop:=s.1 ≤ l.length ∧ s.2 = (l.take s.1).map (fun p => (sideR p.1 p.2).1) ∧ ∀ p ∈ l.take s.1,(sideR p.1 p.2).2 = 0
theorem BpP.fin {l : List (Txt × Txt)} {w : List (Rat × Rat)} (h : BpP l (l.length,w)) : sidesR l = (w,0):=by
  obtain ⟨_,h2,h3⟩:=h
  simp only at h2 h3
  rw [List.take_length] at h2 h3
  have : l.find? (fun p => decide ((sideR p.1 p.2).2 ≠ 0)) = none:=List.find?_eq_none.2 fun p hp => by simp [h3 p hp]
  unfold sidesR
  rw [this,h2]
theorem BpP.bad {l : List (Txt × Txt)} {i : Nat} {w : List (Rat × Rat)} (h : BpP l (i,w)) (hi : i < l.length) (hb : (sideR (l.getD i ([],[])).1 (l.getD i ([],[])).2).2 ≠ 0) : sidesR l = ([],(sideR (l.getD i ([],[])).1 (l.getD i ([],[])).2).2):=by
  obtain ⟨_,h2,h3⟩:=h
  have e : l = l.take i ++ l.getD i ([],[]) :: l.drop (i + 1):=by
    conv => lhs;rw [← List.take_append_drop i l,List.drop_eq_getElem_cons hi]
    rw [List.getD_eq_getElem?_getD,List.getElem?_eq_getElem hi];rfl
  have h4 : (l.take i).find? (fun p => decide ((sideR p.1 p.2).2 ≠ 0)) = none:=List.find?_eq_none.2 fun p hp => by simp [h3 p hp]
  have : l.find? (fun p => decide ((sideR p.1 p.2).2 ≠ 0)) = some (l.getD i ([],[])):=by
    conv => lhs;rw [e]
    rw [List.find?_append,h4,Option.none_or,List.find?_cons,decide_eq_true hb]
  unfold sidesR
  rw [this]
theorem BpP.next {l : List (Txt × Txt)} {i : Nat} {w : List (Rat × Rat)} (h : BpP l (i,w)) (hi : i < l.length) (hb : (sideR (l.getD i ([],[])).1 (l.getD i ([],[])).2).2 = 0) : BpP l (i + 1,w ++ [(sideR (l.getD i ([],[])).1 (l.getD i ([],[])).2).1]):=by
  obtain ⟨_,h2,h3⟩:=h
  have e : l.take (i + 1) = l.take i ++ [l.getD i ([],[])]:=by
    rw [List.take_add_one,List.getD_eq_getElem?_getD,List.getElem?_eq_getElem hi];rfl
  refine ⟨hi, ?_,fun p hp => ?_⟩
  · simp only at h2
    rw [h2,e,List.map_append];rfl
  · simp only at hp
    rw [e] at hp
    rcases List.mem_append.1 hp with hp | hp
    · exact h3 p hp
    · rw [List.mem_singleton] at hp;rw [hp];exact hb
theorem box_Parse {l : List (Txt × Txt)} (hl : l.length < 1073741824) (ht : ∀ p ∈ l,p.1.length < 9223372036854775808 ∧ p.2.length < 9223372036854775808) : C E 46 [txD l] (boxD (boxR l)):=by
  refine CG_intro Tryz.func46 rfl (by kernel_rfl) rfl (by kernel_rfl) (by kernel_rfl) rfl ?_
  by_cases hlen : l.length < 1 ∨ 3 < l.length
  · have e : boxR l = ([],1):=by unfold boxR;rw [if_pos hlen]
    rw [e]
    by_cases h1 : l.length < 1
    · simp (disch:=first|exact dd|fail) only [go_sem,seval,txD]
      exact LeV.refl _
    · simp (disch:=first|exact dd|fail) only [go_sem,seval,txD]
      exact LeV.refl _
  have e : boxR l = sidesR l:=by unfold boxR;rw [if_neg hlen]
  rw [e]
  simp (disch:=first|exact dd|fail) only [go_sem,seval,txD]
  refine AL.ofN 4 true 6 (fun _ => .unk) (BpP l) (fun s => l.length - s.1) (fun s => [(4, .sl 0 s.1 0 s.1),(17,txD l),(18, .int .i64 l.length),(19, .int .i64 s.1)]) (fun s => [(0, .row false s.1 true 6 s.1 (pR s.2))]) (0,[]) (by simp (disch:=first|exact dd|fail) only [go_sem,seval]) ⟨Nat.zero_le _,rfl,fun p hp => by simp at hp⟩ ?_ ?_ ?_ ?_
  · simp (disch:=first|exact dd|fail) only [go_sem,seval,txD]
    try exact LeV.refl _
  · simp (disch:=first|exact dd|fail) only [go_sem,seval,txD]
    try exact fun j hj => absurd hj (by omega)
  · intro x _;simp (disch:=first|exact dd|fail) only [go_sem,seval]
  rintro ⟨i,w⟩ hP
  have hf:=hP
  obtain ⟨hi,hw,hz⟩:=hP
  simp only at hi hw hz
  have hwl : w.length = i:=by rw [hw,List.length_map,List.length_take];omega
  by_cases hil : i = l.length
  · subst hil
    rw [hf.fin]
    clear hf hw hz
    simp (disch:=first|exact dd|fail) only [go_sem,seval,txD]
    refine LeV.tup (LesV.cons ?_ (LesV.refl _))
    exact LeV.ro hwl.symm fun j hj => Le.refl _
  · have hil' : i < l.length:=by omega
    have hmem : l.getD i ([],[]) ∈ l:=by
      rw [List.getD_eq_getElem?_getD,List.getElem?_eq_getElem hil'];exact List.getElem_mem hil'
    obtain ⟨t1,t2⟩:=ht _ hmem
    have hp : txR l i = .agg [.str (l.getD i ([],[])).1, .str (l.getD i ([],[])).2]:=rfl
    have hbad:=hf.bad hil'
    have hnext:=hf.next hil'
    generalize l.getD i ([],[]) = p at *
    have hS:=box_side p.1 p.2 t1 t2
    simp (disch:=first|exact dd|fail) only [go_sem,seval,txD,hp]
    refine cA hS ?_
    by_cases hb : (sideR p.1 p.2).2 = 0
    · have hnx:=hnext hb
      clear hnext
      generalize sideR p.1 p.2 = r at *
      obtain ⟨r1,r2⟩:=r
      simp only at hb hnx
      subst hb
      clear hbad hz hw hS hf
      simp (disch:=first|exact dd|fail) only [go_sem,seval,txD]
      refine ⟨.inl trivial, .inr trivial,by omega,by omega, ?_⟩
      refine ⟨_,hnx,by show l.length - (i + 1) < l.length - i;omega, ?_, ?_⟩
      · simp (disch:=first|exact dd|fail) only [go_sem,seval,txD]
        try exact LeV_int (by omega)
      · simp (disch:=first|exact dd|fail) only [go_sem,seval]
        exact fun j hj => Le.of_eq (pR_snoc hwl hj)
    · rw [hbad hb]
      have hne : ((sideR p.1 p.2).2 == 0) = false:=beq_eq_false_iff_ne.2 hb
      have hne2 : boxD ([],(sideR p.1 p.2).2) = .tup [.nils, .int .i64 (sideR p.1 p.2).2]:=by unfold boxD;rw [if_neg hb]
      rw [hne2]
      clear hbad hnext hz hw hS hf
      simp (disch:=first|exact dd|fail) only [go_sem,seval,txD,hne]
      try exact LeV.refl _
attribute [go_sem] cl_tx flat_tx
def pairsB (l : List (Txt × Txt)) (m : Nat) : Bool:=decide (l.length ≤ m) && l.all fun p => decide (p.1.length ≤ 30) && decide (p.2.length ≤ 30)
theorem book_Pairs (l : List (Txt × Txt)) {m : Nat} (hm : m < 1000) : C E 24 [txD l, .int .i64 m] (.bool (pairsB l m)):=by
  refine CG_intro Tryz.func24 rfl (by kernel_rfl) rfl (by kernel_rfl) (by kernel_rfl) rfl ?_
  by_cases hlen : l.length ≤ m
  · have e : pairsB l m = l.all fun p => decide (p.1.length ≤ 30) && decide (p.2.length ≤ 30):=by unfold pairsB;rw [decide_eq_true hlen];rfl
    rw [e]
    simp (disch:=first|exact dd|fail) only [go_sem,seval,txD]
    refine AL.of (fun i : Nat => i ≤ l.length ∧ ∀ j,j < i → (l.getD j ([],[])).1.length ≤ 30 ∧ (l.getD j ([],[])).2.length ≤ 30) (fun i => l.length - i) (fun i => [(0,txD l),(5, .int .i64 i)]) (fun _ => []) 0 ⟨Nat.zero_le _,fun j hj => by omega⟩ ?_ ?_ ?_ ?_
    · simp (disch:=first|exact dd|fail) only [go_sem,seval,txD]
      try exact LeV.refl _
    · simp (disch:=first|exact dd|fail) only [go_sem,seval]
    · intro x _;simp (disch:=first|exact dd|fail) only [go_sem,seval]
    rintro i ⟨hi,hall⟩
    by_cases hil : i = l.length
    · subst hil
      have ha : (l.all fun p => decide (p.1.length ≤ 30) && decide (p.2.length ≤ 30)) = true:=List.all_eq_true.2 fun p hp => by
        obtain ⟨j,hj,rfl⟩:=List.getElem_of_mem hp
        have:=hall j hj
        rw [List.getD_eq_getElem?_getD,List.getElem?_eq_getElem hj] at this
        obtain ⟨h1,h2⟩:=this
        simp only [Option.getD_some] at h1 h2
        rw [decide_eq_true h1,decide_eq_true h2];rfl
      rw [ha]
      simp (disch:=first|exact dd|fail) only [go_sem,seval,txD]
    · have hil' : i < l.length:=by omega
      have hmem : l.getD i ([],[]) ∈ l:=by
        rw [List.getD_eq_getElem?_getD,List.getElem?_eq_getElem hil'];exact List.getElem_mem hil'
      have hp : txR l i = .agg [.str (l.getD i ([],[])).1, .str (l.getD i ([],[])).2]:=rfl
      generalize hpp : l.getD i ([],[]) = p at *
      by_cases h1 : p.1.length ≤ 30
      · by_cases h2 : p.2.length ≤ 30
        · simp (disch:=first|exact dd|fail) only [go_sem,seval,txD,hp]
          refine ⟨i + 1,⟨hil',fun j hj => ?_⟩,by show l.length - (i + 1) < l.length - i;omega, ?_, ?_⟩
          · by_cases hji : j = i
            · subst hji;rw [hpp];exact ⟨h1,h2⟩
            · exact hall j (by omega)
          · simp (disch:=first|exact dd|fail) only [go_sem,seval,txD]
            exact LeV_int (by omega)
          · simp (disch:=first|exact dd|fail) only [go_sem,seval]
        · have ha : (l.all fun p => decide (p.1.length ≤ 30) && decide (p.2.length ≤ 30)) = false:=by
            rw [Bool.eq_false_iff]
            intro h
            have:=List.all_eq_true.1 h p hmem
            rw [decide_eq_false h2] at this
            simp at this
          rw [ha]
          simp (disch:=first|exact dd|fail) only [go_sem,seval,txD,hp]
      · have ha : (l.all fun p => decide (p.1.length ≤ 30) && decide (p.2.length ≤ 30)) = false:=by
          rw [Bool.eq_false_iff]
          intro h
          have:=List.all_eq_true.1 h p hmem
          rw [decide_eq_false h1] at this
          simp at this
        rw [ha]
        simp (disch:=first|exact dd|fail) only [go_sem,seval,txD,hp]
  · have e : pairsB l m = false:=by unfold pairsB;rw [decide_eq_false hlen];rfl
    rw [e]
    simp (disch:=first|exact dd|fail) only [go_sem,seval,txD]
end Go.Proofs.YtakaojkfipnfcaaGreatDoor.Lv
