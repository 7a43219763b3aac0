/- The document's intervals and boxes: SpanParse, BoxParse. The book's Pairs, Within; the law's Of. Bounds of halves. Arguments: rows of pairs of texts, rows of numbers. Arguments: rows of pairs of texts with their bounds. Numbers as bytes: the plain law. Numbers as bytes: Put, of the program and of the reference. Numbers as bytes: Get, of the program and of the reference. Numbers as bytes: the reference's Get. The document's numbers: NatText. The document's numbers: NatText: the walk. -/
import Derived.Test.YtakaojkfipnfcaaGreatDoorG18
import Derived.Test.YtakaojkfipnfcaaGreatDoorG10
import Derived.Test.YtakaojkfipnfcaaGreatDoorG14
import Derived.Test.YtakaojkfipnfcaaGreatDoorG12
import Derived.Test.YtakaojkfipnfcaaGreatDoorG11
set_option linter.unusedVariables false
set_option linter.unusedSimpArgs false
set_option maxRecDepth 100000
set_option maxHeartbeats 4000000
namespace Go.Proofs.YtakaojkfipnfcaaGreatDoor.Lv
open Go Go.RowKit
def rsD (p : Rat × Rat) : D:=.agg [.bool (decide (p.1.num < 0)),nD p.1.num.natAbs,nD p.1.den, .bool (decide (p.2.num < 0)),nD p.2.num.natAbs,nD p.2.den]
def rs0 : D:=.agg [.bool false,nD 0,nD 0, .bool false,nD 0,nD 0]
section
variable (p : Rat × Rat) (h : Hp) (ρ : Nat → Option Nat) (r : D → Option D)
theorem cl_rs : cl (rsD p) = true:=Eq.trans rfl rfl
theorem flat_rs : flat (rsD p) = false:=Eq.trans rfl rfl
theorem asAgg_rs : asAgg (rsD p) = some [.bool (decide (p.1.num < 0)),nD p.1.num.natAbs,nD p.1.den, .bool (decide (p.2.num < 0)),nD p.2.num.natAbs,nD p.2.den]:=Eq.trans rfl rfl
end
attribute [go_sem] cl_rs flat_rs asAgg_rs
section
variable (h : Hp) (ρ : Nat → Option Nat)
theorem flat_rs0 : flat rs0 = false:=Eq.trans rfl rfl
theorem asAgg_rs0 : asAgg rs0 = some [.bool false,nD 0,nD 0, .bool false,nD 0,nD 0]:=Eq.trans rfl rfl
end
attribute [go_sem] flat_rs0 asAgg_rs0
theorem LeV_rs0 : LeV (.agg [.bool false, .nils, .nils, .bool false, .nils, .nils]) rs0:=
  LeV.agg (LesV.cons (LeV.refl _) (LesV.cons nD_zero (LesV.cons nD_zero (LesV.cons (LeV.refl _) (LesV.cons nD_zero (LesV.cons nD_zero LesV.nil))))))
def rspD (r : (Rat × Rat) × Int) : D:=.tup [if r.2 = 0 then rsD r.1 else rs0, .int .i64 r.2]
theorem ref_SpanParse (lo hi : List UInt8) (h1 : lo.length < 9223372036854775808) (h2 : hi.length < 9223372036854775808) : C E 44 [.agg [.str lo, .str hi]] (rspD (spR lo hi)):=by
  refine CG_intro Tryz.func44 rfl (by kernel_rfl) rfl (by kernel_rfl) (by kernel_rfl) rfl ?_
  have p1:=ref_RatParse lo h1
  have p2:=ref_RatParse hi h2
  have r2 : rspD ((0,0),2) = .tup [rs0, .int .i64 2]:=rfl
  have r1 : rspD ((0,0),1) = .tup [rs0, .int .i64 1]:=rfl
  cases ha : rpO lo with
  | none =>
    have e : spR lo hi = ((0,0),2):=by unfold spR;rw [ha]
    rw [e,r2]
    rw [rrD_no ha] at p1
    generalize (if 0 ≤ Lib.indexByte lo 47 then 0 else 1) = k1 at p1
    simp (disch:=first|exact dd|fail) only [go_sem,seval]
    refine cA p1 ?_
    simp (disch:=first|exact dd|fail) only [go_sem,seval]
    cases hb : rpO hi with
    | none =>
      rw [rrD_no hb] at p2
      generalize (if 0 ≤ Lib.indexByte hi 47 then 0 else 1) = k2 at p2
      refine cA p2 ?_
      simp (disch:=first|exact dd|fail) only [go_sem,seval]
      exact LeV.tup (LesV.cons LeV_rs0 (LesV.refl _))
    | some b =>
      rw [rrD_yes hb] at p2
      refine cA p2 ?_
      simp (disch:=first|exact dd|fail) only [go_sem,seval]
      exact LeV.tup (LesV.cons LeV_rs0 (LesV.refl _))
  | some a =>
    rw [rrD_yes ha] at p1
    cases hb : rpO hi with
    | none =>
      have e : spR lo hi = ((0,0),2):=by unfold spR;rw [ha,hb]
      rw [e,r2]
      rw [rrD_no hb] at p2
      generalize (if 0 ≤ Lib.indexByte hi 47 then 0 else 1) = k2 at p2
      simp (disch:=first|exact dd|fail) only [go_sem,seval]
      refine cA p1 ?_
      simp (disch:=first|exact dd|fail) only [go_sem,seval]
      refine cA p2 ?_
      simp (disch:=first|exact dd|fail) only [go_sem,seval]
      exact LeV.tup (LesV.cons LeV_rs0 (LesV.refl _))
    | some b =>
      rw [rrD_yes hb] at p2
      have hC:=ref_RatCmp ((rpO_qb ha).qs (by omega)) ((rpO_qb hb).qs (by omega))
      have hg:=sgQ_gt a b
      have e : spR lo hi = if b < a then ((0,0),1) else ((a,b),0):=by unfold spR;rw [ha,hb]
      rw [e]
      simp (disch:=first|exact dd|fail) only [go_sem,seval]
      refine cA p1 ?_
      simp (disch:=first|exact dd|fail) only [go_sem,seval]
      refine cA p2 ?_
      simp (disch:=first|exact dd|fail) only [go_sem,seval]
      refine cA hC ?_
      by_cases h : b < a
      · rw [decide_eq_true h] at hg
        rw [if_pos h,r1]
        simp (disch:=first|exact dd|fail) only [go_sem,seval,hg]
        exact LeV.tup (LesV.cons LeV_rs0 (LesV.refl _))
      · rw [decide_eq_false h] at hg
        have r0 : rspD ((a,b),0) = .tup [rsD (a,b), .int .i64 0]:=rfl
        rw [if_neg h,r0]
        simp (disch:=first|exact dd|fail) only [go_sem,seval,hg]
        try exact LeV.refl _
def rsR (l : List (Rat × Rat)) : Nat → D:=fun i => rsD (l.getD i (0,0))
def rbD (l : List (Rat × Rat)) : D:=.ro true 6 l.length (rsR l)
section
variable (l : List (Rat × Rat)) (h : Hp) (ρ : Nat → Option Nat)
theorem flat_rb : flat (rbD l) = false:=Eq.trans rfl rfl
theorem imp_rb : imp ρ h (rbD l) = rbD l:=Eq.trans rfl rfl
theorem refs_rb : refs ρ (rbD l) = []:=Eq.trans rfl rfl
theorem one_rb : one h (rbD l) = true:=Eq.trans rfl rfl
end
attribute [go_sem] flat_rb imp_rb refs_rb one_rb
def rboxD (r : List (Rat × Rat) × Int) : D:=.tup [if r.2 = 0 then rbD r.1 else .nils, .int .i64 r.2]
theorem rR_snoc {w : List (Rat × Rat)} {d : Rat × Rat} {j n : Nat} (hn : w.length = n) (hj : j < n + 1) : (if j < n then rsR w j else [rsD d].getD (j - n) .unk) = rsR (w ++ [d]) j:=by
  unfold rsR
  by_cases h : j < n
  · rw [if_pos h,List.getD_eq_getElem?_getD,List.getD_eq_getElem?_getD,List.getElem?_append_left (by omega)]
  · rw [if_neg h,List.getD_eq_getElem?_getD (l:=w ++ [d]),List.getElem?_append_right (by omega),hn,show j - n = 0 by omega]
    rfl
theorem ref_BoxParse {l : List (Txt × Txt)} (hl : l.length < 1073741824) (ht : ∀ p ∈ l,p.1.length < 9223372036854775808 ∧ p.2.length < 9223372036854775808) : C E 41 [txD l] (rboxD (boxR l)):=by
  refine CG_intro Tryz.func41 rfl (by kernel_rfl) rfl (by kernel_rfl) (by kernel_rfl) rfl ?_
  by_cases hlen : l.length < 1 ∨ 3 < l.length
  · have e : boxR l = ([],1):=by unfold boxR;rw [if_pos hlen]
    rw [e]
    by_cases h1 : l.length < 1
    · simp (disch:=first|exact dd|fail) only [go_sem,seval,txD]
      exact LeV.refl _
    · simp (disch:=first|exact dd|fail) only [go_sem,seval,txD]
      exact LeV.refl _
  have e : boxR l = sidesR l:=by unfold boxR;rw [if_neg hlen]
  rw [e]
  simp (disch:=first|exact dd|fail) only [go_sem,seval,txD]
  refine AL.ofN 4 true 6 (fun _ => .unk) (BpP l) (fun s => l.length - s.1) (fun s => [(0,txD l),(4, .sl 0 s.1 0 s.1),(5, .int .i64 s.1)]) (fun s => [(0, .row false s.1 true 6 s.1 (rsR s.2))]) (0,[]) (by simp (disch:=first|exact dd|fail) only [go_sem,seval]) ⟨Nat.zero_le _,rfl,fun p hp => by simp at hp⟩ ?_ ?_ ?_ ?_
  · simp (disch:=first|exact dd|fail) only [go_sem,seval,txD]
    try exact LeV.refl _
  · simp (disch:=first|exact dd|fail) only [go_sem,seval,txD]
    try exact fun j hj => absurd hj (by omega)
  · intro x _;simp (disch:=first|exact dd|fail) only [go_sem,seval]
  rintro ⟨i,w⟩ hP
  have hf:=hP
  obtain ⟨hi,hw,hz⟩:=hP
  simp only at hi hw hz
  have hwl : w.length = i:=by rw [hw,List.length_map,List.length_take];omega
  by_cases hil : i = l.length
  · subst hil
    rw [hf.fin]
    clear hf hw hz
    simp (disch:=first|exact dd|fail) only [go_sem,seval,txD]
    refine LeV.tup (LesV.cons ?_ (LesV.refl _))
    exact LeV.ro hwl.symm fun j hj => Le.refl _
  · have hil' : i < l.length:=by omega
    have hmem : l.getD i ([],[]) ∈ l:=by
      rw [List.getD_eq_getElem?_getD,List.getElem?_eq_getElem hil'];exact List.getElem_mem hil'
    obtain ⟨t1,t2⟩:=ht _ hmem
    have hp : txR l i = .agg [.str (l.getD i ([],[])).1, .str (l.getD i ([],[])).2]:=rfl
    have hbad:=hf.bad hil'
    have hnext:=hf.next hil'
    generalize l.getD i ([],[]) = p at *
    have hS:=ref_SpanParse p.1 p.2 t1 t2
    obtain ⟨q1,q2,q3⟩:=spR_qb p.1 p.2
    have hsd : sideR p.1 p.2 = sideR p.1 p.2:=rfl
    conv at hsd => rhs;unfold sideR
    generalize sideR p.1 p.2 = r at *
    generalize spR p.1 p.2 = s at *
    obtain ⟨⟨a,b⟩,c⟩:=s
    simp only at q1 q2 q3 hS hsd
    have s1:=q1.qs (by omega)
    have s2:=q2.qs (by omega)
    have hge:=sgQ_ge a b
    have d1:=ref_Dyadic s1 (by have:=q1.2;omega)
    have d2:=ref_Dyadic s2 (by have:=q2.2;omega)
    clear hw hz hf ht
    simp (disch:=first|exact dd|fail) only [go_sem,seval,txD,hp]
    by_cases hc : c = 0
    · subst hc
      have r0 : rspD ((a,b),0) = .tup [rsD (a,b), .int .i64 0]:=rfl
      rw [r0] at hS
      rw [if_neg (by simp)] at hsd
      refine cA hS ?_
      simp (disch:=first|exact dd|fail) only [go_sem,seval,txD]
      refine cA (ref_RatCmp s1 s2) ?_
      by_cases hle : b ≤ a
      · rw [if_pos hle] at hsd
        subst hsd
        rw [hbad (by decide)]
        rw [decide_eq_true hle] at hge
        simp (disch:=first|exact dd|fail) only [go_sem,seval,txD,hge]
        try exact LeV.refl _
      · rw [if_neg hle] at hsd
        rw [decide_eq_false hle] at hge
        simp (disch:=first|exact dd|fail) only [go_sem,seval,txD,hge]
        refine cA d1 ?_
        by_cases hd1 : dyq a
        · rw [decide_eq_true hd1]
          simp (disch:=first|exact dd|fail) only [go_sem,seval,txD]
          refine cA d2 ?_
          by_cases hd2 : dyq b
          · rw [decide_eq_true hd2]
            rw [if_pos ⟨hd1,hd2⟩] at hsd
            subst hsd
            have hnx:=hnext rfl
            clear hnext hbad
            simp (disch:=first|exact dd|fail) only [go_sem,seval,txD]
            refine ⟨.inl trivial, .inr trivial,by omega,by omega, ?_⟩
            refine ⟨_,hnx,by show l.length - (i + 1) < l.length - i;omega, ?_, ?_⟩
            · simp (disch:=first|exact dd|fail) only [go_sem,seval,txD]
              try exact LeV_int (by omega)
            · simp (disch:=first|exact dd|fail) only [go_sem,seval]
              exact fun j hj => Le.of_eq (rR_snoc hwl hj)
          · rw [decide_eq_false hd2]
            rw [if_neg (fun h => hd2 h.2)] at hsd
            subst hsd
            rw [hbad (by decide)]
            simp (disch:=first|exact dd|fail) only [go_sem,seval,txD]
            try exact LeV.refl _
        · rw [decide_eq_false hd1]
          rw [if_neg (fun h => hd1 h.1)] at hsd
          subst hsd
          rw [hbad (by decide)]
          simp (disch:=first|exact dd|fail) only [go_sem,seval,txD]
          try exact LeV.refl _
    · have r0 : rspD ((a,b),c) = .tup [rs0, .int .i64 c]:=by unfold rspD;rw [if_neg hc]
      rw [r0] at hS
      rw [if_pos hc] at hsd
      subst hsd
      rw [hbad hc]
      have hne : (c == 0) = false:=beq_eq_false_iff_ne.2 hc
      have hne2 : (c != 0) = true:=by rw [bne,hne];rfl
      have hne3 : rboxD ([],c) = .tup [.nils, .int .i64 c]:=by unfold rboxD;rw [if_neg hc]
      rw [hne3]
      refine cA hS ?_
      simp (disch:=first|exact dd|fail) only [go_sem,seval,txD,hne,hne2]
      try exact LeV.refl _
attribute [go_sem] cl_tx flat_tx
theorem rightB_iff {l : List (Rat × Rat)} : rightB l = true ↔ (∀ p ∈ l,p.1 < p.2) ∧ 1 ≤ l.length ∧ l.length ≤ 3:=by
  unfold rightB
  rw [Bool.and_eq_true,Bool.and_eq_true,List.all_eq_true,decide_eq_true_iff,decide_eq_true_iff]
  constructor
  · rintro ⟨⟨h1,h2⟩,h3⟩
    exact ⟨fun p hp => of_decide_eq_true (h1 p hp),h2,h3⟩
  · rintro ⟨h1,h2,h3⟩
    exact ⟨⟨fun p hp => decide_eq_true (h1 p hp),h2⟩,h3⟩
def BxB (k n : Nat) (l : List (Rat × Rat)) : Prop:=rightB l = true ∧ l.length = n ∧ ∀ p ∈ l,qb k p.1 ∧ qb k p.2
theorem boxR_ok {l : List (Txt × Txt)} (h : (boxR l).2 = 0) : BxB 4001 (boxR l).1.length (boxR l).1 ∧ 1 ≤ (boxR l).1.length ∧ (boxR l).1.length ≤ 3:=by
  have hs : ∀ p : Txt × Txt,(sideR p.1 p.2).2 = 0 → (sideR p.1 p.2).1.1 < (sideR p.1 p.2).1.2 ∧ qb 4001 (sideR p.1 p.2).1.1 ∧ qb 4001 (sideR p.1 p.2).1.2:=fun p => by
    obtain ⟨q1,q2,_⟩:=spR_qb p.1 p.2
    unfold sideR
    generalize spR p.1 p.2 = s at *
    split
    · rename_i h;intro h2;exact absurd h2 h
    · split
      · intro h2;exact absurd h2 (by decide)
      · rename_i h
        split
        · intro _;exact ⟨by grind,q1,q2⟩
        · intro h2;exact absurd h2 (by decide)
  unfold boxR at h ⊢
  split at h
  · exact absurd h (by decide)
  · rename_i hlen
    rw [if_neg hlen]
    unfold sidesR at h ⊢
    split at h
    · rename_i p hp
      have:=List.find?_some hp
      exact absurd h (of_decide_eq_true this)
    · rename_i hf
      have hz : ∀ p ∈ l,(sideR p.1 p.2).2 = 0:=fun p hp => by
        have:=List.find?_eq_none.1 hf p hp
        simpa using this
      have hm : ∀ q ∈ l.map (fun p => (sideR p.1 p.2).1),q.1 < q.2 ∧ qb 4001 q.1 ∧ qb 4001 q.2:=fun q hq => by
        obtain ⟨p,hp,rfl⟩:=List.mem_map.1 hq
        exact hs p (hz p hp)
      refine ⟨⟨rightB_iff.2 ⟨fun q hq => (hm q hq).1, ?_, ?_⟩,rfl,fun q hq => (hm q hq).2⟩, ?_, ?_⟩
      all_goals
        simp only [List.length_map]
        omega
theorem limb_byte (n i : Nat) : (limbs n).getD (i / 4) 0 / 2 ^ (8 * (i % 4)) % 256 = n / 256 ^ i % 256:=by
  have hr : i % 4 < 4:=Nat.mod_lt _ (by omega)
  have hpow : 256 ^ i = 4294967296 ^ (i / 4) * 2 ^ (8 * (i % 4)):=by
    have e1 : (256 : Nat) ^ i = 2 ^ (8 * i):=by rw [Nat.pow_mul]
    have e2 : 8 * i = 32 * (i / 4) + 8 * (i % 4):=by omega
    rw [e1,e2,Nat.pow_add,Nat.pow_mul]
  rw [hpow,← Nat.div_div_eq_div_mul]
  generalize i / 4 = s
  generalize hR : 8 * (i % 4) = r at *
  have hr2 : r ≤ 24:=by omega
  rcases Nat.lt_or_ge s (limbs n).length with h | h
  · have hd:=val_drop (limbs_low n) (s:=s) (by omega)
    rw [val_limbs,val_getD_drop h] at hd
    rw [← hd]
    have e : (4294967296 : Nat) = 2 ^ r * 2 ^ (32 - r):=by rw [← Nat.pow_add,show r + (32 - r) = 32 by omega]
    have e2 : 2 ^ (32 - r) = 256 * 2 ^ (24 - r):=by rw [show 32 - r = 8 + (24 - r) by omega,Nat.pow_add]
    have hp:=Nat.two_pow_pos r
    generalize (limbs n).getD s 0 = x
    generalize val ((limbs n).drop (s + 1)) = y
    rw [e,Nat.mul_assoc,Nat.add_mul_div_left _ _ hp,e2,Nat.mul_assoc,Nat.add_mul_mod_self_left]
  · have h1 : (limbs n).getD s 0 = 0:=getD_out' h
    have h2 : n / 4294967296 ^ s = 0:=Nat.div_eq_of_lt ((nb_lt (n:=n) (k:=s)).1 h)
    rw [h1,h2,Nat.zero_div]
def nby (n : Nat) : Nat:=(nbit n + 7) / 8
def natB (n : Nat) : List UInt8:=(List.range (nby n)).map fun j => UInt8.ofNat (n / 256 ^ (nby n - 1 - j) % 256)
theorem natB_len (n : Nat) : (natB n).length = nby n:=by unfold natB;rw [List.length_map,List.length_range]
def nbR (n k i : Nat) : Nat → D:=fun j => .int .u8 ((if k - 1 - j < i then n / 256 ^ (k - 1 - j) % 256 else 0 : Nat) : Int)
theorem nbR_set {n k i j : Nat} (hi : i < k) (hj : j < k) : (if j = k - 1 - i then .int .u8 ((n / 256 ^ i % 256 : Nat) : Int) else nbR n k i j) = nbR n k (i + 1) j:=by
  unfold nbR
  by_cases h : j = k - 1 - i
  · rw [if_pos h,if_pos (by omega),show k - 1 - j = i by omega]
  · rw [if_neg h]
    by_cases h2 : k - 1 - j < i
    · rw [if_pos h2,if_pos (by omega)]
    · rw [if_neg h2,if_neg (by omega)]
theorem nbR_fin (n : Nat) : ∀ i,i < nby n → nbR n (nby n) (nby n) i = bR (natB n) i:=by
  intro i hi
  unfold nbR bR natB
  rw [if_pos (by omega),List.getD_eq_getElem?_getD,List.getElem?_map,List.getElem?_range hi]
  simp only [Option.map_some,Option.getD_some]
  rw [u8_lit (Nat.mod_lt _ (by omega))]
theorem nby_le {n k : Nat} (h : nb n ≤ k) : nby n ≤ 4 * k:=by
  have:=nb_nbit.1 h
  unfold nby;omega
def vput (v : Nat) : List UInt8:=if v < 128 then [UInt8.ofNat v] else UInt8.ofNat (v % 128 + 128) :: vput (v / 128)
termination_by v
theorem vput_lt {v : Nat} (h : v < 128) : vput v = [UInt8.ofNat v]:=by rw [vput,if_pos h]
theorem vput_ge {v : Nat} (h : ¬ v < 128) : vput v = UInt8.ofNat (v % 128 + 128) :: vput (v / 128):=by rw [vput,if_neg h]
theorem bits_or128 (n : Nat) (h : n < 256) : bits .u8 .or (n : Int) 128 = ((n % 128 + 128 : Nat) : Int):=by
  have : ∀ n : Fin 256,bits .u8 .or ((n.val : Nat) : Int) 128 = ((n.val % 128 + 128 : Nat) : Int):=by decide +kernel
  exact this ⟨n,h⟩
def PutP (v : Nat) (x : Nat × List UInt8) : Prop:=x.2.length ≤ 9 ∧ x.1 < 2 ^ (64 - 7 * x.2.length) ∧ x.2 ++ vput x.1 = vput v
theorem PutP.next {v : Nat} {x : Nat × List UInt8} (h : PutP v x) (h1 : ¬ x.1 < 128) : PutP v (x.1 / 128,x.2 ++ [UInt8.ofNat (x.1 % 128 + 128)]):=by
  obtain ⟨a,l⟩:=x
  obtain ⟨h2,h3,h4⟩:=h
  simp only at h1 h2 h3 h4
  have hk : l.length ≤ 8 ∧ a / 128 < 2 ^ (64 - 7 * (l.length + 1)):=by
    generalize l.length = k at h2 h3
    rcases (show k = 0 ∨ k = 1 ∨ k = 2 ∨ k = 3 ∨ k = 4 ∨ k = 5 ∨ k = 6 ∨ k = 7 ∨ k = 8 ∨ k = 9 by omega) with rfl | rfl | rfl | rfl | rfl | rfl | rfl | rfl | rfl | rfl <;> omega
  refine ⟨?_, ?_, ?_⟩
  · simp only [List.length_append,List.length_singleton];omega
  · simp only [List.length_append,List.length_singleton];exact hk.2
  · rw [← h4,vput_ge h1];simp
theorem byte_app (l : List UInt8) (n : Nat) (hn : n < 256) {i : Nat} (hi : i < l.length + 1) : (if i < l.length then bR l i else [D.int .u8 (n : Int)].getD (i - l.length) .unk) = bR (l ++ [UInt8.ofNat n]) i:=by
  have:=bR_app l [UInt8.ofNat n] (i:=i) (by simpa using hi)
  rw [List.map_singleton,← u8_lit hn] at this
  exact this
theorem vint_Put (v : Nat) (hv : v < 18446744073709551616) : C E 98 [.int .u64 v] (.str (vput v)):=by
  refine CG_intro Tryz.func98 rfl (by kernel_rfl) rfl (by kernel_rfl) (by kernel_rfl) rfl ?_
  simp (disch:=first|exact dd|fail) only [go_sem,seval]
  refine AL.ofN 3 false 1 (bR []) (PutP v) (fun x => x.1) (fun x => [(0, .int .u64 x.1),(3, .sl 0 x.2.length 0 x.2.length)])
    (fun x => [(0, .row false x.2.length false 1 x.2.length (bR x.2))]) (v,[]) (by kernel_rfl) ⟨by simp,by simpa using hv,rfl⟩ ?_ ?_ ?_ ?_
  · simp (disch:=first|exact dd|fail) only [go_sem,seval]
  · simp (disch:=first|exact dd|fail) only [go_sem,seval]
    exact fun _ _ => trivial
  · intro x _;simp (disch:=first|exact dd|fail) only [go_sem,seval]
  rintro ⟨a,l⟩ hP
  have hn:=hP.next
  obtain ⟨h2,h3,h4⟩:=hP
  simp only at h2 h3 h4 hn
  have ha : a < 18446744073709551616:=Nat.lt_of_lt_of_le h3 (by
    rw [show (18446744073709551616 : Nat) = 2 ^ 64 from rfl]
    exact Nat.pow_le_pow_right (by omega) (by omega))
  by_cases h : a < 128
  · have e : IntKind.u8.wrap (a : Int) = a:=wrap_u8 (by omega)
    simp (disch:=first|exact dd|fail) only [go_sem,seval,e]
    refine ⟨.inl trivial, .inr trivial,by omega,by omega, ?_⟩
    rw [vput_lt h] at h4
    rw [bstr_of (l:=vput v) rfl (by rw [← h4];simp) fun i hi => (byte_app l a (by omega) hi).trans (by rw [h4])]
    simp (disch:=first|exact dd|fail) only [go_sem,seval]
  · have e : IntKind.u8.wrap (a : Int) = ((a % 256 : Nat) : Int):=by rw [wrap_u8'];omega
    have e2 : bits .u8 .or ((a % 256 : Nat) : Int) 128 = ((a % 128 + 128 : Nat) : Int):=by
      rw [bits_or128 _ (by omega)];congr 1;omega
    have e3 : (a : Int) / 128 = ((a / 128 : Nat) : Int):=by omega
    simp (disch:=first|exact dd|fail) only [go_sem,seval,e,e2,e3]
    refine ⟨.inl trivial, .inr trivial,by omega,by omega,(a / 128,l ++ [UInt8.ofNat (a % 128 + 128)]),hn h,by show a / 128 < a;omega, ?_, ?_⟩
    · simp (disch:=first|exact dd|fail) only [go_sem,seval]
    · simp (disch:=first|exact dd|fail) only [go_sem,seval]
      exact fun i hi => Le.of_eq (byte_app l _ (by omega) hi)
theorem r2_Put (v : Nat) (hv : v < 18446744073709551616) : C E 102 [.int .u64 v] (.str (vput v)):=by
  refine CG_intro Tryz.func102 rfl (by kernel_rfl) rfl (by kernel_rfl) (by kernel_rfl) rfl ?_
  simp (disch:=first|exact dd|fail) only [go_sem,seval]
  refine AL.ofN 3 false 1 (bR []) (PutP v) (fun x => x.1) (fun x => [(0, .int .u64 x.1),(3, .sl 0 x.2.length 0 x.2.length)])
    (fun x => [(0, .row false x.2.length false 1 x.2.length (bR x.2))]) (v,[]) (by kernel_rfl) ⟨by simp,by simpa using hv,rfl⟩ ?_ ?_ ?_ ?_
  · simp (disch:=first|exact dd|fail) only [go_sem,seval]
  · simp (disch:=first|exact dd|fail) only [go_sem,seval]
    exact fun _ _ => trivial
  · intro x _;simp (disch:=first|exact dd|fail) only [go_sem,seval]
  rintro ⟨a,l⟩ hP
  have hn:=hP.next
  obtain ⟨h2,h3,h4⟩:=hP
  simp only at h2 h3 h4 hn
  have ha : a < 18446744073709551616:=Nat.lt_of_lt_of_le h3 (by
    rw [show (18446744073709551616 : Nat) = 2 ^ 64 from rfl]
    exact Nat.pow_le_pow_right (by omega) (by omega))
  by_cases h : a < 128
  · have e : IntKind.u8.wrap (a : Int) = a:=wrap_u8 (by omega)
    simp (disch:=first|exact dd|fail) only [go_sem,seval,e]
    refine ⟨.inl trivial, .inr trivial,by omega,by omega, ?_⟩
    rw [vput_lt h] at h4
    rw [bstr_of (l:=vput v) rfl (by rw [← h4];simp) fun i hi => (byte_app l a (by omega) hi).trans (by rw [h4])]
    simp (disch:=first|exact dd|fail) only [go_sem,seval]
  · have e1:=bits_and127 a ha
    have e : bits .u64 .or ((a % 128 : Nat) : Int) 128 = ((a % 128 + 128 : Nat) : Int):=by
      have h1:=bits_or (a % 128) 128 (by omega) (by omega)
      have h2:=or_add 7 1 (a % 128) (by omega)
      rw [h2] at h1
      exact h1
    have e2 : IntKind.u8.wrap ((a % 128 + 128 : Nat) : Int) = ((a % 128 + 128 : Nat) : Int):=wrap_u8 (by omega)
    have e3 : (a : Int) / 128 = ((a / 128 : Nat) : Int):=by omega
    simp (disch:=first|exact dd|fail) only [go_sem,seval,e1,e,e2,e3]
    refine ⟨.inl trivial, .inr trivial,by omega,by omega,(a / 128,l ++ [UInt8.ofNat (a % 128 + 128)]),hn h,by show a / 128 < a;omega, ?_, ?_⟩
    · simp (disch:=first|exact dd|fail) only [go_sem,seval]
    · simp (disch:=first|exact dd|fail) only [go_sem,seval]
      exact fun i hi => Le.of_eq (byte_app l _ (by omega) hi)
theorem vput_len (v : Nat) (hv : v < 18446744073709551616) : (vput v).length ≤ 10:=by
  have step : ∀ n v,v < 128 ^ (n + 1) → (vput v).length ≤ n + 1:=fun n => by
    induction n with
    | zero => intro v h;rw [vput_lt (by simpa using h)];simp
    | succ n ih =>
      intro v h
      by_cases h1 : v < 128
      · rw [vput_lt h1];simp
      · rw [vput_ge h1,List.length_cons]
        have:=ih (v / 128) (by rw [Nat.div_lt_iff_lt_mul (by omega),← Nat.pow_succ];exact h)
        omega
  exact step 9 v (Nat.lt_trans hv (by decide))
def vgo (b : List UInt8) (a : Nat) (i v : Nat) : Nat → Nat × Nat × Nat
  | 0 => (0,0,6)
  | f + 1 => if b.length ≤ a + i then (0,0,4) else
    if i = 9 ∧ 1 < (b.getD (a + i) 0).toNat ∨ 0 < i ∧ (b.getD (a + i) 0).toNat = 0 then (0,0,6) else
    if (b.getD (a + i) 0).toNat < 128 then (v + 2 ^ (7 * i) * ((b.getD (a + i) 0).toNat % 128),a + i + 1,0) else
    vgo b a (i + 1) (v + 2 ^ (7 * i) * ((b.getD (a + i) 0).toNat % 128)) f
def vget (b : List UInt8) (a : Int) : Nat × Nat × Nat:=if a < 0 ∨ (b.length : Int) < a then (0,0,1) else vgo b a.toNat 0 0 10
def vgD (x : Nat × Nat × Nat) : D:=.tup [.int .u64 x.1, .int .i64 x.2.1, .int .i64 x.2.2]
theorem vgo_next {v i : Nat} (c : Nat) (hi : i ≤ 9) (hc : c < 128) (h9 : i = 9 → c ≤ 1) (hv : v < 2 ^ (7 * i)) : v + 2 ^ (7 * i) * c < 18446744073709551616 ∧ (i < 9 → v + 2 ^ (7 * i) * c < 2 ^ (7 * (i + 1))) ∧ 2 ^ (7 * i) * c < 18446744073709551616:=by
  have h9' : i < 9 ∨ c ≤ 1:=by
    by_cases e : i = 9
    · exact .inr (h9 e)
    · exact .inl (by omega)
  clear h9
  rcases (show i = 0 ∨ i = 1 ∨ i = 2 ∨ i = 3 ∨ i = 4 ∨ i = 5 ∨ i = 6 ∨ i = 7 ∨ i = 8 ∨ i = 9 by omega) with rfl | rfl | rfl | rfl | rfl | rfl | rfl | rfl | rfl | rfl <;> simp only [Nat.reduceMul,Nat.reducePow,Nat.reduceAdd] at * <;> omega
theorem vgo_or {v i : Nat} (c : Nat) (hi : i ≤ 9) (hc : c < 128) (h9 : i = 9 → c ≤ 1) (hv : v < 2 ^ (7 * i)) : bits .u64 .or (v : Int) (IntKind.u64.wrap ((c : Int) * ((2 ^ (7 * i) : Nat) : Int))) = ((v + 2 ^ (7 * i) * c : Nat) : Int):=by
  obtain ⟨h1,_,h2⟩:=vgo_next c hi hc h9 hv
  rw [show (c : Int) * ((2 ^ (7 * i) : Nat) : Int) = ((2 ^ (7 * i) * c : Nat) : Int) by rw [Int.natCast_mul,Int.mul_comm]]
  rw [← or_add _ c v hv]
  generalize 2 ^ (7 * i) * c = m at *
  rw [wrap_u64 ⟨by omega,by omega⟩,bits_or _ _ (by omega) h2]
theorem vint_Get (b : List UInt8) (a : Int) (ha : -9223372036854775808 ≤ a ∧ a ≤ 9223372036854775807) (hb : b.length < 1099511627776) : C E 111 [.str b, .int .i64 a] (vgD (vget b a)):=by
  refine CG_intro Tryz.func111 rfl (by kernel_rfl) rfl (by kernel_rfl) (by kernel_rfl) rfl ?_
  simp (disch:=first|exact dd|fail) only [go_sem,seval]
  by_cases h1 : a < 0
  · simp (disch:=first|exact dd|fail) only [go_sem,seval]
    rw [vget,if_pos (.inl h1)]
    exact LeV.refl _
  by_cases h2 : (b.length : Int) < a
  · simp (disch:=first|exact dd|fail) only [go_sem,seval]
    rw [vget,if_pos (.inr h2)]
    exact LeV.refl _
  simp (disch:=first|exact dd|fail) only [go_sem,seval]
  obtain ⟨n,rfl⟩:=Int.eq_ofNat_of_zero_le (show 0 ≤ a by omega)
  have hr : vget b (n : Int) = vgo b n 0 0 10:=by rw [vget,if_neg (by omega),Int.toNat_natCast]
  generalize vget b (n : Int) = res at *
  refine AL.of (fun x : Nat × Nat => x.1 ≤ 9 ∧ x.2 < 2 ^ (7 * x.1) ∧ res = vgo b n x.1 x.2 (10 - x.1)) (fun x => 10 - x.1) (fun x => [(0, .str b),(1, .int .i64 n),(7, .int .u64 x.2),(18, .int .i64 x.1)])
    (fun _ => []) (0,0) ⟨by omega,by decide,hr⟩ ?_ ?_ ?_ ?_
  · simp (disch:=first|exact dd|fail) only [go_sem,seval]
  · trivial
  · intro x _;simp (disch:=first|exact dd|fail) only [go_sem,seval]
  rintro ⟨i,v⟩ ⟨hi,hv,hr⟩
  simp only at hi hv hr
  rw [show 10 - i = (9 - i) + 1 by omega,vgo] at hr
  by_cases h3 : b.length ≤ n + i
  · rw [if_pos h3] at hr
    subst hr
    simp (disch:=first|exact dd|fail) only [go_sem,seval]
    exact LeV.refl _
  rw [if_neg h3] at hr
  have hin : ((n : Int) + (i : Int)).toNat = n + i:=by omega
  have hc:=(b.getD (n + i) 0).toNat_lt
  generalize hcc : (b.getD (n + i) 0).toNat = c at *
  have e7 : (((7 : Int) * (i : Int)).toNat) = 7 * i:=by omega
  have em : min (7 * i) 64 = 7 * i:=by omega
  have ew : IntKind.u64.wrap (((c % 128 : Nat) : Int)) = ((c % 128 : Nat) : Int):=wrap_u64 (by omega)
  have et : ((c : Int).tmod 128) = ((c % 128 : Nat) : Int):=by
    rw [Int.tmod_eq_emod_of_nonneg (by omega)];omega
  by_cases hbad : i = 9 ∧ 1 < c ∨ 0 < i ∧ c = 0
  · rw [if_pos hbad] at hr
    subst hr
    by_cases h9 : i = 9
    · by_cases h1 : 1 < c
      · simp (disch:=first|exact dd|fail) only [go_sem,seval,hin,hcc,e7,em,et,ew]
        exact LeV.refl _
      · simp (disch:=first|exact dd|fail) only [go_sem,seval,hin,hcc,e7,em,et,ew]
        exact LeV.refl _
    · simp (disch:=first|exact dd|fail) only [go_sem,seval,hin,hcc,e7,em,et,ew]
      exact LeV.refl _
  · rw [if_neg hbad] at hr
    have ho:=vgo_or (v:=v) (c % 128) hi (by omega) (by omega) hv
    obtain ⟨_,hv2,_⟩:=vgo_next (v:=v) (c % 128) hi (by omega) (by omega) hv
    generalize v + 2 ^ (7 * i) * (c % 128) = v' at *
    by_cases hlt : c < 128
    · rw [if_pos hlt] at hr
      subst hr
      by_cases h9 : i = 9
      · by_cases h0 : c = 0
        · omega
        · simp (disch:=first|exact dd|fail) only [go_sem,seval,hin,hcc,e7,em,et,ew,ho]
          exact LeV.refl _
      · by_cases h0 : c = 0
        · simp (disch:=first|exact dd|fail) only [go_sem,seval,hin,hcc,e7,em,et,ew,ho]
          exact LeV.refl _
        · simp (disch:=first|exact dd|fail) only [go_sem,seval,hin,hcc,e7,em,et,ew,ho]
          exact LeV.refl _
    · rw [if_neg hlt] at hr
      simp (disch:=first|exact dd|fail) only [go_sem,seval,hin,hcc,e7,em,et,ew,ho]
      refine ⟨(i + 1,v'),⟨by show i + 1 ≤ 9;omega,hv2 (by omega),by rw [hr,show 9 - i = 10 - (i + 1) by omega]⟩,by show 10 - (i + 1) < 10 - i;omega, ?_, ?_⟩
      · simp (disch:=first|exact dd|fail) only [go_sem,seval]
        exact LeV.of_eq (by rw [Int.natCast_succ])
      · trivial
theorem bits_and127b (n : Nat) (h : n < 256) : bits .u8 .and (n : Int) 127 = ((n % 128 : Nat) : Int):=by
  have : ∀ n : Fin 256,bits .u8 .and ((n.val : Nat) : Int) 127 = ((n.val % 128 : Nat) : Int):=by decide +kernel
  exact this ⟨n,h⟩
theorem r2_Get (b : List UInt8) (a : Int) (ha : -9223372036854775808 ≤ a ∧ a ≤ 9223372036854775807) (hb : b.length < 1099511627776) : C E 75 [.str b, .int .i64 a] (vgD (vget b a)):=by
  refine CG_intro Tryz.func75 rfl (by kernel_rfl) rfl (by kernel_rfl) (by kernel_rfl) rfl ?_
  simp (disch:=first|exact dd|fail) only [go_sem,seval]
  by_cases h1 : a < 0
  · simp (disch:=first|exact dd|fail) only [go_sem,seval]
    rw [vget,if_pos (.inl h1)]
    exact LeV.refl _
  by_cases h2 : (b.length : Int) < a
  · simp (disch:=first|exact dd|fail) only [go_sem,seval]
    rw [vget,if_pos (.inr h2)]
    exact LeV.refl _
  simp (disch:=first|exact dd|fail) only [go_sem,seval]
  obtain ⟨n,rfl⟩:=Int.eq_ofNat_of_zero_le (show 0 ≤ a by omega)
  have hr : vget b (n : Int) = vgo b n 0 0 10:=by rw [vget,if_neg (by omega),Int.toNat_natCast]
  generalize vget b (n : Int) = res at *
  refine AL.of (fun x : Nat × Nat => x.1 ≤ 9 ∧ x.2 < 2 ^ (7 * x.1) ∧ res = vgo b n x.1 x.2 (10 - x.1)) (fun x => 10 - x.1) (fun x => [(0, .str b),(1, .int .i64 n),(7, .int .u64 x.2),(8, .int .i64 x.1)])
    (fun _ => []) (0,0) ⟨by omega,by decide,hr⟩ ?_ ?_ ?_ ?_
  · simp (disch:=first|exact dd|fail) only [go_sem,seval]
  · trivial
  · intro x _;simp (disch:=first|exact dd|fail) only [go_sem,seval]
  rintro ⟨i,v⟩ ⟨hi,hv,hr⟩
  simp only at hi hv hr
  rw [show 10 - i = (9 - i) + 1 by omega,vgo] at hr
  by_cases h3 : b.length ≤ n + i
  · rw [if_pos h3] at hr
    subst hr
    simp (disch:=first|exact dd|fail) only [go_sem,seval]
    exact LeV.refl _
  rw [if_neg h3] at hr
  have hin : ((n : Int) + (i : Int)).toNat = n + i:=by omega
  have hc:=(b.getD (n + i) 0).toNat_lt
  generalize hcc : (b.getD (n + i) 0).toNat = c at *
  have e7 : (((7 : Int) * (i : Int)).toNat) = 7 * i:=by omega
  have em : min (7 * i) 64 = 7 * i:=by omega
  have ew : IntKind.u64.wrap (((c % 128 : Nat) : Int)) = ((c % 128 : Nat) : Int):=wrap_u64 (by omega)
  have et:=bits_and127b c hc
  by_cases hbad : i = 9 ∧ 1 < c ∨ 0 < i ∧ c = 0
  · rw [if_pos hbad] at hr
    subst hr
    by_cases h9 : i = 9
    · by_cases h1 : 1 < c
      · simp (disch:=first|exact dd|fail) only [go_sem,seval,hin,hcc,e7,em,et,ew]
        exact LeV.refl _
      · simp (disch:=first|exact dd|fail) only [go_sem,seval,hin,hcc,e7,em,et,ew]
        exact LeV.refl _
    · simp (disch:=first|exact dd|fail) only [go_sem,seval,hin,hcc,e7,em,et,ew]
      exact LeV.refl _
  · rw [if_neg hbad] at hr
    have ho:=vgo_or (v:=v) (c % 128) hi (by omega) (by omega) hv
    obtain ⟨_,hv2,_⟩:=vgo_next (v:=v) (c % 128) hi (by omega) (by omega) hv
    generalize v + 2 ^ (7 * i) * (c % 128) = v' at *
    by_cases hlt : c < 128
    · rw [if_pos hlt] at hr
      subst hr
      by_cases h9 : i = 9
      · by_cases h0 : c = 0
        · omega
        · simp (disch:=first|exact dd|fail) only [go_sem,seval,hin,hcc,e7,em,et,ew,ho]
          exact LeV.refl _
      · by_cases h0 : i = 0
        · simp (disch:=first|exact dd|fail) only [go_sem,seval,hin,hcc,e7,em,et,ew,ho]
          exact LeV.refl _
        · simp (disch:=first|exact dd|fail) only [go_sem,seval,hin,hcc,e7,em,et,ew,ho]
          exact LeV.refl _
    · rw [if_neg hlt] at hr
      by_cases h0 : i = 0
      all_goals
        simp (disch:=first|exact dd|fail) only [go_sem,seval,hin,hcc,e7,em,et,ew,ho]
        refine ⟨(i + 1,v'),⟨by show i + 1 ≤ 9;omega,hv2 (by omega),by rw [hr,show 9 - i = 10 - (i + 1) by omega]⟩,by show 10 - (i + 1) < 10 - i;omega, ?_, ?_⟩
        · simp (disch:=first|exact dd|fail) only [go_sem,seval]
          exact LeV.of_eq (by rw [Int.natCast_succ])
        · trivial
theorem cut_at {l : List Nat} : ∀ k,k ≤ l.length → val (l.take k) = val l → ∃ j,j ≤ l.length ∧ val (l.take j) = val l ∧ ∀ i,i + 1 = j → l.getD i 0 ≠ 0
  | 0,h,e => ⟨0,h,e,fun i hi => by omega⟩
  | k + 1,h,e => by
    by_cases h0 : l.getD k 0 = 0
    · exact cut_at k (by omega) (by rw [← val_take (by omega) h0];exact e)
    · exact ⟨k + 1,h,e,fun i hi => by
        obtain rfl : i = k:=by omega
        exact h0⟩
theorem limbs_pre {l : List Nat} (hl : lows l) : l.take (nb (val l)) = limbs (val l) ∧ nb (val l) ≤ l.length:=by
  obtain ⟨j,h1,h2,h3⟩:=cut_at l.length (Nat.le_refl _) (by rw [List.take_length])
  have e:=cut_fin hl h1 h2 h3
  have e2 : nb (val l) = j:=by rw [nb,e,List.length_take];omega
  rw [e2,e];exact ⟨rfl,h1⟩
theorem ref_trim_own {l : List Nat} (hl : lows l) {N : Nat} (hn : l.length ≤ N) (hN : N < 4611686018427387904) (ver : Nat) {f : Nat → D} (hf : ∀ i,i < l.length → f i = .int .u32 ((l.getD i 0 : Nat) : Int)) :
    CG E 160 [.sl 0 ver 0 l.length] [(0, .row false ver false 1 N f)] (.sl 0 ver 0 (nb (val l))) [(0, .row false ver false 1 N f)]:=by
  refine CG_intro Tryz.func160 rfl (by kernel_rfl) rfl (by kernel_rfl) (by kernel_rfl) rfl ?_
  simp (disch:=first|exact dd|fail) only [go_sem,seval]
  refine AL.of (fun k : Nat => k ≤ l.length ∧ val (l.take k) = val l) (fun k => k) (fun k => [(0, .sl 0 ver 0 l.length),(3, .int .i64 k)]) (fun _ => [(0, .row false ver false 1 N f)]) l.length ⟨by omega,by simp⟩ ?_ ?_ ?_ ?_
  · simp (disch:=first|exact dd|fail) only [go_sem,seval]
    try exact LeV.refl _
  · simp (disch:=first|exact dd|fail) only [go_sem,seval]
    try exact fun _ _ => trivial
  · intro x _;simp (disch:=first|exact dd|fail) only [go_sem,seval]
  rintro k ⟨h1,h2⟩
  have e0 : ((k : Nat) : Int).toNat = k:=by omega
  have fin : (∀ j,j + 1 = k → l.getD j 0 ≠ 0) → nb (val l) = k:=fun h3 => by
    have e:=cut_fin hl h1 h2 h3
    rw [nb,e,List.length_take];omega
  by_cases hk : 0 < k
  · obtain ⟨j,rfl⟩ : ∃ j,k = j + 1:=⟨k - 1,by omega⟩
    have ej : (((j + 1 : Nat) : Int) - 1).toNat = j:=by omega
    have hfj:=hf j (by omega)
    by_cases h0 : l.getD j 0 = 0
    · simp (disch:=first|exact dd|fail) only [go_sem,seval,ej,hfj]
      refine ⟨j,⟨by omega,by rw [← val_take (by omega) h0];exact h2⟩,Nat.lt_succ_self j, ?_, ?_⟩
      · simp (disch:=first|exact dd|fail) only [go_sem,seval]
        try exact LeV_int (by omega)
      · simp (disch:=first|exact dd|fail) only [go_sem,seval]
        try exact fun _ _ => trivial
    · have hq:=fin fun j' hj' => by
        obtain rfl : j' = j:=by omega
        exact h0
      rw [hq]
      simp (disch:=first|exact dd|fail) only [go_sem,seval,ej,e0,hfj]
      try exact fun _ _ => trivial
  · obtain rfl : k = 0:=by omega
    have hq:=fin fun j hj => by omega
    rw [hq]
    simp (disch:=first|exact dd|fail) only [go_sem,seval]
    try exact fun _ _ => trivial
def dgRow (l t : List Nat) (k : Nat) : List Nat:=shRow 10 l k ++ t
theorem dgRow_len (l t : List Nat) (k : Nat) : (dgRow l t k).length = l.length + t.length:=by rw [dgRow,List.length_append,shRow_len]
theorem dgRow_at {l t : List Nat} {k : Nat} (hk : k < l.length) : (dgRow l t (k + 1)).getD k 0 = l.getD k 0:=by
  rw [← shRow_at 10 hk,dgRow,List.getD_eq_getElem?_getD,List.getElem?_append_left (by rw [shRow_len];exact hk),← List.getD_eq_getElem?_getD]
theorem dgRow_step {l t : List Nat} {k : Nat} (hk : k < l.length) : dgRow l t k = (dgRow l t (k + 1)).set k (((sdiv 10 (l.drop (k + 1))).2 * 4294967296 + l.getD k 0) / 10):=by
  rw [dgRow,dgRow,List.set_append_left _ _ (by rw [shRow_len];exact hk),← shRow_step 10 hk]
def DtP (n N : Nat) (s : Nat × List Nat × List UInt8) : Prop:=nb s.1 + s.2.1.length = N ∧ s.2.2 ++ rdec s.1 = rdec n
theorem DtP.next {n N m : Nat} {t : List Nat} {out : List UInt8} (h : DtP n N (m,t,out)) (h0 : m ≠ 0) :
    DtP n N (m / 10,(sdiv 10 (limbs m)).1.drop (nb (m / 10)) ++ t,out ++ [dg (m % 10)]) ∧ (sdiv 10 (limbs m)).2 = m % 10 ∧ dgRow (limbs m) t 0 = limbs (m / 10) ++ ((sdiv 10 (limbs m)).1.drop (nb (m / 10)) ++ t) ∧ val (sdiv 10 (limbs m)).1 = m / 10 ∧ lows (sdiv 10 (limbs m)).1 ∧ m / 10 < m ∧ (sdiv 10 (limbs m)).1.length = nb m:=by
  obtain ⟨h1,h2⟩:=h
  simp only at h1 h2
  have hv:=sdiv_val (q:=10) (by omega) (limbs m)
  have hr:=sdiv_rem (q:=10) (by omega) (limbs m)
  have hl:=sdiv_low (q:=10) (by omega) (limbs_low m)
  have hn:=sdiv_len 10 (limbs m)
  rw [val_limbs] at hv
  have e1 : val (sdiv 10 (limbs m)).1 = m / 10:=by omega
  have e2 : (sdiv 10 (limbs m)).2 = m % 10:=by omega
  obtain ⟨p1,p2⟩:=limbs_pre hl
  rw [e1] at p1 p2
  have hnb : (limbs m).length = nb m:=rfl
  refine ⟨⟨?_, ?_⟩,e2, ?_,e1,hl,by omega,by omega⟩
  · simp only [List.length_append,List.length_drop]
    omega
  · simp only
    rw [List.append_assoc,← h2,rdec_pos h0];rfl
  · rw [dgRow,shRow,List.drop_zero,List.take_zero,List.nil_append,← List.append_assoc]
    congr 1
    rw [← p1,List.take_append_drop]
def RvP (s : List UInt8) (x : Nat × List UInt8) : Prop:=x.1 ≤ s.length / 2 ∧ x.2.length = s.length ∧ ∀ j,j < s.length → x.2.getD j 0 = if j < x.1 ∨ s.length - 1 - x.1 < j then s.getD (s.length - 1 - j) 0 else s.getD j 0
theorem RvP.fin {s : List UInt8} {w : List UInt8} (h : RvP s (s.length / 2,w)) : w = s.reverse:=by
  obtain ⟨_,h2,h3⟩:=h
  simp only at h2 h3
  refine List.ext_getElem (by rw [List.length_reverse,h2]) fun j hj1 hj2 => ?_
  have:=h3 j (by omega)
  rw [List.getD_eq_getElem?_getD,List.getElem?_eq_getElem hj1] at this
  simp only [Option.getD_some] at this
  rw [this,List.getElem_reverse]
  split
  · rw [List.getD_eq_getElem?_getD,List.getElem?_eq_getElem (by omega)];rfl
  · have e : s.length - 1 - j = j:=by omega
    rw [List.getD_eq_getElem?_getD,List.getElem?_eq_getElem (by omega)]
    simp only [Option.getD_some,e]
theorem RvP.next {s w : List UInt8} {i : Nat} (h : RvP s (i,w)) (hi : i < s.length / 2) : RvP s (i + 1,(w.set i (w.getD (s.length - 1 - i) 0)).set (s.length - 1 - i) (w.getD i 0)):=by
  obtain ⟨_,h2,h3⟩:=h
  simp only at h2 h3
  have hg : ∀ (v : List UInt8) (a b : Nat) (c : UInt8),a < v.length → (v.set a c).getD b 0 = if b = a then c else v.getD b 0:=fun v a b c ha => by
    by_cases e : b = a
    · rw [if_pos e,e,List.getD_eq_getElem?_getD,List.getElem?_set_self ha];rfl
    · rw [if_neg e,List.getD_eq_getElem?_getD,List.getElem?_set_ne (fun h => e h.symm),← List.getD_eq_getElem?_getD]
  refine ⟨by show i + 1 ≤ _;omega,by simp only [List.length_set];exact h2,fun j hj => ?_⟩
  simp only
  rw [hg _ _ _ _ (by rw [List.length_set];omega),hg _ _ _ _ (by omega),h3 i (by omega),h3 (s.length - 1 - i) (by omega),h3 j hj]
  rw [if_neg (show ¬ (i < i ∨ s.length - 1 - i < i) by omega),if_neg (show ¬ (s.length - 1 - i < i ∨ s.length - 1 - i < s.length - 1 - i) by omega)]
  by_cases h1 : j = s.length - 1 - i
  · subst h1
    rw [if_pos rfl,if_pos (by omega),show s.length - 1 - (s.length - 1 - i) = i by omega]
  · rw [if_neg h1]
    by_cases h4 : j = i
    · subst h4
      rw [if_pos rfl,if_pos (by omega)]
    · rw [if_neg h4]
      by_cases h5 : j < i ∨ s.length - 1 - i < j
      · rw [if_pos h5,if_pos (by omega)]
      · rw [if_neg h5,if_neg (by omega)]
theorem rdec_len {n k : Nat} (h : n < 10 ^ k) : (rdec n).length ≤ k:=by
  obtain ⟨z,hz⟩:=lowd_rdec k n h
  have:=congrArg List.length hz
  rw [lowd_len,List.length_append] at this
  omega
theorem rdec_nb (n : Nat) : (rdec n).length ≤ 10 * nb n:=by
  refine rdec_len (Nat.lt_of_lt_of_le ((nb_lt (n:=n) (k:=nb n)).1 (Nat.le_refl _)) ?_)
  rw [Nat.pow_mul]
  exact Nat.pow_le_pow_left (by decide) _
theorem bR_set {w : List UInt8} {i : Nat} {c : UInt8} (hi : i < w.length) (j : Nat) : (if j = i then D.int .u8 (c.toNat : Int) else bR w j) = bR (w.set i c) j:=by
  unfold bR
  by_cases h : j = i
  · subst h
    rw [if_pos rfl,List.getD_eq_getElem?_getD,List.getElem?_set_self hi];rfl
  · rw [if_neg h,List.getD_eq_getElem?_getD,List.getD_eq_getElem?_getD,List.getElem?_set_ne (fun e => h e.symm)]
theorem ref_NatText {n : Nat} (hn : nb n < 60000000) : C E 119 [nD n] (.str (dec n)):=by
  refine CG_intro Tryz.func119 rfl (by kernel_rfl) rfl (by kernel_rfl) (by kernel_rfl) rfl ?_
  have hlb : (limbs n).length = nb n:=rfl
  by_cases h0 : n = 0
  · subst h0
    have hl0 : nb 0 = 0:=by unfold nb;rw [limbs_zero];rfl
    have e : dec 0 = [48]:=rfl
    rw [e]
    simp (disch:=first|exact dd|fail) only [go_sem,seval,nD,u32s,hlb,hl0]
    try exact LeV.refl _
  · have hp : 0 < (limbs n).length:=limbs_ne h0
    have e : dec n = (rdec n).reverse:=by rw [dec,if_neg h0]
    rw [e]
    simp (disch:=first|exact dd|fail) only [go_sem,seval,nD,u32s,hlb]
    refine ⟨.inl trivial, .inr trivial,by omega,by omega, ?_⟩
    refine AL.ofN 4 false 1 (fun _ => .unk) (DtP n (nb n)) (fun s => s.1) (fun s => [(3, .sl 0 0 0 (nb s.1)),(4, .sl 1 s.2.2.length 0 s.2.2.length)])
      (fun s => [(0, .row false 0 false 1 (nb n) (lR (limbs s.1 ++ s.2.1))),(1, .row false s.2.2.length false 1 s.2.2.length (bR s.2.2))]) (n,[],[]) (by simp (disch:=first|exact dd|fail) only [go_sem,seval]) ⟨rfl,rfl⟩ ?_ ?_ ?_ ?_
    · simp (disch:=first|exact dd|fail) only [go_sem,seval]
      try exact LesV.refl _
    · simp (disch:=first|exact dd|fail) only [go_sem,seval]
      exact ⟨fun i hi => Le.refl _,fun i hi => absurd hi (by omega)⟩
    · intro x _;simp (disch:=first|exact dd|fail) only [go_sem,seval]
    rintro ⟨m,t,out⟩ hP
    by_cases hm : m = 0
    · subst hm
      have hf:=hP.2
      simp only [rdec_zero,List.append_nil] at hf
      subst hf
      have hl0 : nb 0 = 0:=by unfold nb;rw [limbs_zero];rfl
      have hsl:=rdec_nb n
      clear hP
      generalize rdec n = s at *
      simp (disch:=first|exact dd|fail) only [go_sem,seval,hl0]
      have hq : (s.length : Int).tdiv 2 = ((s.length / 2 : Nat) : Int):=(Int.ofNat_tdiv _ _).symm
      have hq2 : (s.length : Int) / 2 = ((s.length / 2 : Nat) : Int):=by omega
      refine AL.of (RvP s) (fun x => s.length / 2 - x.1) (fun x => [(4, .sl 1 s.length 0 s.length),(8, .int .i64 x.1)]) (fun x => [(1, .row false s.length false 1 s.length (bR x.2))]) (0,s)
        ⟨Nat.zero_le _,rfl,fun j hj => by rw [if_neg (by simp only;omega)]⟩ ?_ ?_ ?_ ?_
      · simp (disch:=first|exact dd|fail) only [go_sem,seval]
        try exact LeV.refl _
      · simp (disch:=first|exact dd|fail) only [go_sem,seval]
        try exact fun _ _ => trivial
      · intro x _;simp (disch:=first|exact dd|fail) only [go_sem,seval]
      rintro ⟨i,w⟩ hR
      have hi : i ≤ s.length / 2:=hR.1
      have hwl : w.length = s.length:=hR.2.1
      by_cases hil : i = s.length / 2
      · subst hil
        rw [← hR.fin]
        clear hR
        have hb : bstr [(1, .row false s.length false 1 s.length (bR w))] (.sl 1 s.length 0 s.length) = some (.str w):=bstr_bR rfl hwl.symm
        simp (disch:=first|exact dd|fail) only [go_sem,seval,hq,hq2,hb]
        try exact LeV.refl _
      · have hil' : i < s.length / 2:=by omega
        have hnx:=hR.next hil'
        have e1 : ((s.length : Int) - 1 - (i : Int)).toNat = s.length - 1 - i:=by omega
        have e2 : ((i : Nat) : Int).toNat = i:=by omega
        have b1 : ∀ c j,(if j = i then D.int .u8 ((c : UInt8).toNat : Int) else bR w j) = bR (w.set i c) j:=fun c j => bR_set (by omega) j
        clear hR
        simp (disch:=first|exact dd|fail) only [go_sem,seval,hq,hq2,e1,e2]
        refine ⟨rfl,rfl,rfl,rfl, ?_⟩
        refine ⟨_,hnx,by show s.length / 2 - (i + 1) < s.length / 2 - i;omega, ?_, ?_⟩
        · simp (disch:=first|exact dd|fail) only [go_sem,seval]
          try exact LeV_int (by omega)
        · simp (disch:=first|exact dd|fail) only [go_sem,seval]
          intro j hj
          rw [← bR_set (w:=w.set i (w.getD (s.length - 1 - i) 0)) (i:=s.length - 1 - i) (c:=w.getD i 0) (by rw [List.length_set];omega) j,← b1]
          exact Le.refl _
    · have hmp : 0 < (limbs m).length:=limbs_ne hm
      have hmn : nb m + t.length = nb n:=hP.1
      obtain ⟨hnx,x1,x2,x3,x4,x5,x6⟩:=hP.next hm
      have hlm : (limbs m).length = nb m:=rfl
      have hP2 : out ++ rdec m = rdec n:=hP.2
      clear hP
      simp (disch:=first|exact dd|fail) only [go_sem,seval]
      refine AL.of (fun k : Nat => k ≤ nb m) (fun k => k) (fun k => [(3, .sl 0 0 0 (nb m)),(4, .sl 1 out.length 0 out.length),(5, .int .u64 (((sdiv 10 ((limbs m).drop k)).2 : Nat) : Int)),(6, .int .i64 ((k : Int) - 1))])
        (fun k => [(0, .row false 0 false 1 (nb n) (lR (dgRow (limbs m) t k))),(1, .row false out.length false 1 out.length (bR out))]) (nb m) (Nat.le_refl _) ?_ ?_ ?_ ?_
      · have e0 : (sdiv 10 ((limbs m).drop (nb m))).2 = 0:=by rw [← hlm,List.drop_length];rfl
        rw [e0]
        simp (disch:=first|exact dd|fail) only [go_sem,seval]
        try exact LeV.refl _
      · have e1 : dgRow (limbs m) t (nb m) = limbs m ++ t:=by rw [dgRow,shRow,← hlm,List.drop_length,List.take_length];rw [show (sdiv 10 ([] : List Nat)).1 = [] from rfl,List.append_nil]
        rw [e1]
        simp (disch:=first|exact dd|fail) only [go_sem,seval]
        try exact ⟨fun _ _ => trivial,fun _ _ => trivial⟩
      · intro x _;simp (disch:=first|exact dd|fail) only [go_sem,seval]
      intro k hk
      rcases k with _ | k
      · have hol : out.length ≤ (rdec n).length:=by rw [← hP2,List.length_append];omega
        have hnl:=rdec_nb n
        have hT:=ref_trim_own x4 (N:=nb n) (by omega) (by omega) 0 (f:=lR (dgRow (limbs m) t 0)) (fun i hi => by
          rw [lR,dgRow,shRow,List.drop_zero,List.take_zero,List.nil_append,List.getD_eq_getElem?_getD,List.getElem?_append_left hi,← List.getD_eq_getElem?_getD])
        rw [x3,x6] at hT
        have hdg : IntKind.u8.wrap (48 + ((m % 10 : Nat) : Int)) = ((dg (m % 10)).toNat : Int):=by
          rw [dg_toNat (Nat.mod_lt _ (by omega)),wrap_u8 (by omega)];omega
        have hdg2 : IntKind.u64.wrap (48 + ((m % 10 : Nat) : Int)) = 48 + ((m % 10 : Nat) : Int):=wrap_u64 (by omega)
        rw [List.drop_zero,x1]
        simp (disch:=first|exact dd|fail) only [go_sem,seval,hdg,hdg2]
        refine ⟨.inl trivial, .inr trivial,by omega,by omega, ?_⟩
        refine callG [0] hT rfl (by simp (disch:=first|exact dd|fail) only [go_sem,seval]) ?_ ?_ ?_
        · simp (disch:=first|exact dd|fail) only [go_sem,seval]
          try exact LesV.refl _
        · simp (disch:=first|exact dd|fail) only [go_sem,seval]
        simp (disch:=first|exact dd|fail) only [go_sem,seval]
        refine ⟨_,hnx,x5, ?_, ?_⟩
        · simp (disch:=first|exact dd|fail) only [go_sem,seval]
          try exact LesV.refl _
        · rw [x2]
          simp (disch:=first|exact dd|fail) only [go_sem,seval]
          exact ⟨fun _ _ => trivial,fun i hi => Le.of_eq (bR_app out [dg (m % 10)] (by simpa using hi))⟩
      · have g1:=(limbs_low m).getD k
        have r1:=sdiv_rem (q:=10) (by omega) ((limbs m).drop (k + 1))
        have hat:=dgRow_at (l:=limbs m) (t:=t) (k:=k) (by omega)
        have hst:=dgRow_step (l:=limbs m) (t:=t) (k:=k) (by omega)
        have hrow:=fun (d j : Nat) => lR_set' (w:=dgRow (limbs m) t (k + 1)) (i:=k) (d:=d) (j:=j) (by rw [dgRow_len];omega)
        have hs2 : (sdiv 10 ((limbs m).drop k)).2 = ((sdiv 10 ((limbs m).drop (k + 1))).2 * 4294967296 + (limbs m).getD k 0) % 10:=by rw [lim_drop (by omega)];rfl
        have eo:=or_up (sdiv 10 ((limbs m).drop (k + 1))).2 ((limbs m).getD k 0) (by omega) g1
        have hlk : lR (dgRow (limbs m) t (k + 1)) k = .int .u32 (((limbs m).getD k 0 : Nat) : Int):=by rw [lR,hat]
        have ek : (((k + 1 : Nat) : Int) - 1).toNat = k:=by omega
        generalize hR : (sdiv 10 ((limbs m).drop (k + 1))).2 = R at *
        generalize hX : (limbs m).getD k 0 = X at *
        have htd : (((R * 4294967296 + X : Nat) : Int)).tdiv (10 : Int) = (((R * 4294967296 + X) / 10 : Nat) : Int):=(Int.ofNat_tdiv _ _).symm
        have htm : (((R * 4294967296 + X : Nat) : Int)).tmod (10 : Int) = (((R * 4294967296 + X) % 10 : Nat) : Int):=(Int.ofNat_tmod _ _).symm
        have hdl : (R * 4294967296 + X) / 10 < 4294967296:=by omega
        have hml : (R * 4294967296 + X) % 10 < 10:=Nat.mod_lt _ (by omega)
        generalize (R * 4294967296 + X) / 10 = Dv at *
        generalize (R * 4294967296 + X) % 10 = Mv at *
        simp (disch:=first|exact dd|fail) only [go_sem,seval,eo,htd,htm,hlk,ek]
        refine ⟨k,by show k ≤ nb m;omega,by show k < k + 1;omega, ?_, ?_⟩
        · simp (disch:=first|exact dd|fail) only [go_sem,seval,hs2]
          try exact LeV_int (by omega)
        · simp (disch:=first|exact dd|fail) only [go_sem,seval,hst,hrow]
          try exact ⟨fun _ _ => trivial,fun _ _ => trivial⟩
end Go.Proofs.YtakaojkfipnfcaaGreatDoor.Lv
