/- Division by limbs: what is taken away, and put back. Decimal digits: the plain law. Whole numbers and quotients, as values of the abstract machine; the plain law. slices.Backward: its function calls yield with each element, the last one first. The program's numbers: how many digits, cut, Of. The program's numbers: Bits, Zeros, Low. The program's numbers: Zeros, Cmp. The program's numbers: Cmp. The program's numbers: grow. The program's numbers: Add, Sub. -/
import Derived.Test.YtakaojkfipnfcaaGreatDoorG10
import Derived.Test.YtakaojkfipnfcaaGreatDoorG09
import Derived.RangeFuncNested
import Derived.RangeFuncBound
import Derived.RangeFuncCalls
import Derived.RangeFuncLeaves
import Derived.Shelf.Abstract
import Derived.Shelf.RegionOpen
import Derived.WalkKit
import Derived.OwnWalkIn
import Derived.TacticsInMore
import Derived.LoopNIn
import Derived.LoopIn
import Derived.Lib.Hide
set_option linter.unusedVariables false
set_option linter.unusedSimpArgs false
set_option maxRecDepth 100000
set_option maxHeartbeats 4000000
namespace Go.Proofs.YtakaojkfipnfcaaGreatDoor.Lv
open Go Go.RowKit
theorem set_take_val {l : List Nat} {i d : Nat} (h : i < l.length) : val ((l.set i d).take (i + 1)) = val (l.take i) + 4294967296 ^ i * d:=by
  rw [val_take_succ,List.take_set_of_le (Nat.le_refl i),List.getD_eq_getElem?_getD,List.getElem?_set_self h]
  rfl
theorem set_drop {l : List Nat} {i d : Nat} : (l.set i d).drop (i + 1) = l.drop (i + 1):=by
  rw [List.drop_set_of_lt (Nat.lt_succ_self i)]
theorem getD_of_drop {a b : List Nat} {i : Nat} (h : a.drop i = b.drop i) : a.getD i 0 = b.getD i 0:=by
  have:=congrArg (fun l => l.getD 0 0) h
  simp only [List.getD_eq_getElem?_getD,List.getElem?_drop,Nat.add_zero] at this
  rw [List.getD_eq_getElem?_getD,List.getD_eq_getElem?_getD]
  exact this
theorem drop_succ_of {a b : List Nat} {i : Nat} (h : a.drop i = b.drop i) : a.drop (i + 1) = b.drop (i + 1):=by
  rw [← List.drop_drop,← List.drop_drop,h]
theorem tk_step {w w' v : List Nat} {i g c b d b' c' : Nat} (hi : i < w'.length) (hdr : w'.drop i = w.drop i)
    (hinv : val (w'.take i) + g * val (v.take i) = val (w.take i) + 4294967296 ^ i * (c + b)) (hs : d + g * v.getD i 0 + (c + b) = w.getD i 0 + 4294967296 * (b' + c')) :
    val ((w'.set i d).take (i + 1)) + g * val (v.take (i + 1)) = val (w.take (i + 1)) + 4294967296 ^ (i + 1) * (c' + b') ∧ (w'.set i d).drop (i + 1) = w.drop (i + 1):=by
  refine ⟨?_,by rw [set_drop];exact drop_succ_of hdr⟩
  rw [set_take_val hi,val_take_succ v,val_take_succ w,Nat.pow_succ]
  have h2 : 4294967296 ^ i * (d + g * v.getD i 0 + (c + b)) = 4294967296 ^ i * (w.getD i 0 + 4294967296 * (b' + c')):=by rw [hs]
  generalize 4294967296 ^ i = p at *
  have e1 : g * (val (v.take i) + p * v.getD i 0) = g * val (v.take i) + p * (g * v.getD i 0):=by rw [Nat.mul_add,Nat.mul_left_comm]
  have e2 : p * 4294967296 * (c' + b') = p * (4294967296 * (b' + c')):=by rw [Nat.mul_assoc,Nat.add_comm c']
  rw [e1,e2]
  clear hs e1 e2
  generalize c + b = cb at *
  generalize 4294967296 * (b' + c') = bc at *
  rw [Nat.mul_add,Nat.mul_add,Nat.mul_add] at h2
  generalize g * val (v.take i) = m1 at *
  generalize p * (g * v.getD i 0) = m2 at *
  generalize p * bc = m3 at *
  generalize p * cb = m4 at *
  generalize p * w.getD i 0 = m5 at *
  generalize p * d = m6 at *
  omega
theorem ad_step {w w' v : List Nat} {i c d c' : Nat} (hi : i < w'.length) (hdr : w'.drop i = w.drop i)
    (hinv : val (w'.take i) + 4294967296 ^ i * c = val (w.take i) + val (v.take i)) (hs : d + 4294967296 * c' = c + w.getD i 0 + v.getD i 0) :
    val ((w'.set i d).take (i + 1)) + 4294967296 ^ (i + 1) * c' = val (w.take (i + 1)) + val (v.take (i + 1)) ∧ (w'.set i d).drop (i + 1) = w.drop (i + 1):=by
  refine ⟨?_,by rw [set_drop];exact drop_succ_of hdr⟩
  rw [set_take_val hi,val_take_succ v,val_take_succ w,Nat.pow_succ]
  have h2 : 4294967296 ^ i * (d + 4294967296 * c') = 4294967296 ^ i * (c + w.getD i 0 + v.getD i 0):=by rw [hs]
  generalize 4294967296 ^ i = p at *
  rw [Nat.mul_assoc]
  rw [Nat.mul_add,Nat.mul_add,Nat.mul_add] at h2
  generalize p * (4294967296 * c') = m3 at *
  generalize p * c = m4 at *
  generalize p * w.getD i 0 = m5 at *
  generalize p * v.getD i 0 = m7 at *
  generalize p * d = m6 at *
  omega
theorem tk_fin {w w' v : List Nat} {n g c b d neg : Nat} (lw : w.length = n + 1) (lw' : w'.length = n + 1) (lv : v.length = n)
    (hinv : val (w'.take n) + g * val (v.take n) = val (w.take n) + 4294967296 ^ n * (c + b)) (hs : d + (c + b) = w.getD n 0 + 4294967296 * neg) :
    val (w'.set n d) + g * val v = val w + 4294967296 ^ (n + 1) * neg:=by
  have h1 : val (w'.set n d) = val ((w'.set n d).take (n + 1)):=by rw [List.take_of_length_le (by simp;omega)]
  have h2 : val w = val (w.take (n + 1)):=by rw [List.take_of_length_le (by omega)]
  have h3 : val v = val (v.take n):=by rw [List.take_of_length_le (by omega)]
  rw [h1,h2,h3,set_take_val (by omega),val_take_succ w,Nat.pow_succ,Nat.mul_assoc]
  have h4 : 4294967296 ^ n * (d + (c + b)) = 4294967296 ^ n * (w.getD n 0 + 4294967296 * neg):=by rw [hs]
  clear hs
  generalize 4294967296 ^ n = p at *
  generalize c + b = cb at *
  rw [Nat.mul_add,Nat.mul_add] at h4
  generalize p * (4294967296 * neg) = m3 at *
  generalize p * cb = m4 at *
  generalize p * w.getD n 0 = m5 at *
  generalize p * d = m6 at *
  generalize g * val (v.take n) = m7 at *
  omega
theorem ad_fin {w w' v : List Nat} {n c d k : Nat} (lw : w.length = n + 1) (lw' : w'.length = n + 1) (lv : v.length = n)
    (hinv : val (w'.take n) + 4294967296 ^ n * c = val (w.take n) + val (v.take n)) (hs : d + 4294967296 * k = c + w.getD n 0) :
    val (w'.set n d) + 4294967296 ^ (n + 1) * k = val w + val v:=by
  have h1 : val (w'.set n d) = val ((w'.set n d).take (n + 1)):=by rw [List.take_of_length_le (by simp;omega)]
  have h2 : val w = val (w.take (n + 1)):=by rw [List.take_of_length_le (by omega)]
  have h3 : val v = val (v.take n):=by rw [List.take_of_length_le (by omega)]
  rw [h1,h2,h3,set_take_val (by omega),val_take_succ w,Nat.pow_succ,Nat.mul_assoc]
  have h4 : 4294967296 ^ n * (d + 4294967296 * k) = 4294967296 ^ n * (c + w.getD n 0):=by rw [hs]
  generalize 4294967296 ^ n = p at *
  rw [Nat.mul_add,Nat.mul_add] at h4
  generalize p * (4294967296 * k) = m3 at *
  generalize p * c = m4 at *
  generalize p * w.getD n 0 = m5 at *
  generalize p * d = m6 at *
  omega
theorem div_right {W V g w1 Q : Nat} (h : w1 + g * V = W + Q * 0) (hg : W < (g + 1) * V) : W / V = g ∧ W % V = w1:=by
  rw [Nat.mul_zero,Nat.add_zero] at h
  rw [Nat.add_mul,Nat.one_mul] at hg
  have:=div_of (g:=g) (V:=V) (W:=W) (by omega) (by omega)
  exact ⟨this.1,by omega⟩
theorem div_back {W V g w1 w2 Q k : Nat} (h1 : w1 + g * V = W + Q * 1) (h2 : w2 + Q * k = w1 + V) (hlt1 : w1 < Q) (hlt2 : w2 < Q) (hg : g * V < W + V) (hV : V ≤ Q) : 0 < g ∧ W / V = g - 1 ∧ W % V = w2:=by
  rw [Nat.mul_one] at h1
  have hg0 : 0 < g:=by
    rcases Nat.eq_zero_or_pos g with h | h
    · subst h;rw [Nat.zero_mul] at h1;omega
    · exact h
  obtain ⟨m,rfl⟩ : ∃ m,g = m + 1:=⟨g - 1,by omega⟩
  rw [Nat.add_mul,Nat.one_mul] at h1 hg
  have hk : k = 1:=by
    rcases Nat.lt_or_ge k 1 with h | h
    · obtain rfl : k = 0:=by omega
      rw [Nat.mul_zero] at h2
      omega
    rcases Nat.lt_or_ge k 2 with h' | h'
    · omega
    · have : Q * 2 ≤ Q * k:=Nat.mul_le_mul_left _ h'
      omega
  subst hk
  rw [Nat.mul_one] at h2
  have:=div_of (g:=m) (V:=V) (W:=W) (by omega) (by omega)
  exact ⟨by omega,by rw [this.1];rfl,by omega⟩
def dg (n : Nat) : UInt8:=UInt8.ofNat (48 + n)
theorem dg_toNat {n : Nat} (h : n < 10) : (dg n).toNat = 48 + n:=by
  rw [dg,UInt8.toNat_ofNat',Nat.mod_eq_of_lt (by omega)]
def isDig (c : UInt8) : Bool:=decide (48 ≤ c.toNat ∧ c.toNat ≤ 57)
theorem dg_of {c : UInt8} (h : isDig c = true) : ∃ n,n < 10 ∧ c = dg n:=by
  simp only [isDig,decide_eq_true_eq] at h
  refine ⟨c.toNat - 48,by omega,UInt8.toNat_inj.1 ?_⟩
  rw [dg_toNat (by omega)];omega
def lowd : Nat → Nat → List UInt8
  | 0,_ => []
  | k + 1,n => dg (n % 10) :: lowd k (n / 10)
def rdec (n : Nat) : List UInt8:=if h : n = 0 then [] else dg (n % 10) :: rdec (n / 10)
termination_by n
decreasing_by omega
def dec (n : Nat) : List UInt8:=if n = 0 then [48] else (rdec n).reverse
theorem rdec_zero : rdec 0 = []:=by rw [rdec];simp
theorem rdec_pos {n : Nat} (h : n ≠ 0) : rdec n = dg (n % 10) :: rdec (n / 10):=by rw [rdec];simp [h]
theorem lowd_len : ∀ k n,(lowd k n).length = k
  | 0,_ => rfl
  | k + 1,n => by rw [lowd,List.length_cons,lowd_len k]
theorem lowd_add : ∀ j k n,lowd (j + k) n = lowd j n ++ lowd k (n / 10 ^ j)
  | 0,k,n => by rw [Nat.zero_add,Nat.pow_zero,Nat.div_one];rfl
  | j + 1,k,n => by
    rw [show j + 1 + k = (j + k) + 1 by omega,lowd,lowd,lowd_add j k,List.cons_append,Nat.div_div_eq_div_mul,Nat.pow_succ,Nat.mul_comm 10]
theorem lowd_rdec : ∀ k n,n < 10 ^ k → ∃ z,lowd k n = rdec n ++ List.replicate z 48
  | 0,n,h => by
    obtain rfl : n = 0:=by simpa using h
    exact ⟨0,by rw [rdec_zero];rfl⟩
  | k + 1,n,h => by
    obtain ⟨z,hz⟩:=lowd_rdec k (n / 10) (by rw [Nat.div_lt_iff_lt_mul (by omega),← Nat.pow_succ];exact h)
    by_cases h0 : n = 0
    · subst h0
      rw [Nat.zero_div,rdec_zero,List.nil_append] at hz
      exact ⟨z + 1,by rw [lowd,Nat.zero_div,hz,rdec_zero,List.replicate_succ];rfl⟩
    · exact ⟨z,by rw [lowd,hz,rdec_pos h0,List.cons_append]⟩
theorem rdec_last {n : Nat} : ∀ k,k + 1 = (rdec n).length → (rdec n).getD k 0 ≠ 48:=by
  induction n using Nat.strongRecOn with
  | _ n ih =>
    intro k hk
    by_cases h0 : n = 0
    · subst h0;rw [rdec_zero] at hk;simp at hk
    · rw [rdec_pos h0] at hk ⊢
      rw [List.length_cons] at hk
      cases k with
      | zero =>
        have h1 : rdec (n / 10) = []:=List.length_eq_zero_iff.1 (by omega)
        have h2 : n / 10 = 0:=by
          by_cases h : n / 10 = 0
          · exact h
          · rw [rdec_pos h] at h1;cases h1
        rw [List.getD_cons_zero]
        intro h
        have:=congrArg UInt8.toNat h
        rw [dg_toNat (by omega)] at this
        have : (48 : UInt8).toNat = 48:=rfl
        omega
      | succ k => rw [List.getD_cons_succ];exact ih _ (by omega) k (by omega)
theorem snoc_ind {α : Type} {P : List α → Prop} (h0 : P []) (h1 : ∀ s c,P s → P (s ++ [c])) (s : List α) : P s:=by
  have : ∀ l : List α,P l.reverse:=fun l => by
    induction l with
    | nil => exact h0
    | cons c l ih => rw [List.reverse_cons];exact h1 _ _ ih
  have h:=this s.reverse
  rwa [List.reverse_reverse] at h
def dval (s : List UInt8) : Nat:=s.foldl (fun a c => a * 10 + (c.toNat - 48)) 0
theorem dval_snoc (s : List UInt8) (c : UInt8) : dval (s ++ [c]) = dval s * 10 + (c.toNat - 48):=by
  rw [dval,List.foldl_append];rfl
structure NatTxt (s : List UInt8) : Prop where
  ne : s ≠ []
  most : s.length ≤ 4000
  first : s.getD 0 0 = 48 → s.length = 1
  dig : ∀ c ∈ s,isDig c = true
theorem dval_lt : ∀ (s : List UInt8),(∀ c ∈ s,isDig c = true) → dval s < 10 ^ s.length:=by
  intro s
  induction s using snoc_ind with
  | h0 => intro _;exact Nat.one_pos
  | h1 s c ih =>
    intro h
    rw [dval_snoc,List.length_append,List.length_singleton,Nat.pow_succ]
    have h1:=ih fun x hx => h x (by simp [hx])
    obtain ⟨n,hn,rfl⟩:=dg_of (h c (by simp))
    rw [dg_toNat hn]
    generalize 10 ^ s.length = p at *
    omega
theorem rdec_dval : ∀ (s : List UInt8),(∀ c ∈ s,isDig c = true) → (s ≠ [] → s.getD 0 0 ≠ 48) → rdec (dval s) = s.reverse ∧ (s ≠ [] → dval s ≠ 0):=by
  intro s
  induction s using snoc_ind with
  | h0 => intro _ _;exact ⟨rdec_zero,fun h => absurd rfl h⟩
  | h1 s c ih =>
    intro h h0
    obtain ⟨n,hn,rfl⟩:=dg_of (h c (by simp))
    have e : (dg n).toNat - 48 = n:=by rw [dg_toNat hn];omega
    rw [dval_snoc,e,List.reverse_append,List.reverse_singleton]
    have hne : dval s * 10 + n ≠ 0:=by
      by_cases hs : s = []
      · subst hs
        have h1:=h0 (by simp)
        simp only [List.nil_append,List.getD_cons_zero] at h1
        have : n ≠ 0:=fun hz => h1 (by subst hz;rfl)
        omega
      · have:=(ih (fun x hx => h x (by simp [hx])) (fun _ => by
          have h1:=h0 (by simp)
          rw [List.getD_eq_getElem?_getD,List.getElem?_append_left (List.length_pos_iff.2 hs)] at h1
          rw [List.getD_eq_getElem?_getD];exact h1)).2 hs
        omega
    refine ⟨?_,fun _ => hne⟩
    rw [rdec_pos hne,show (dval s * 10 + n) % 10 = n by omega,show (dval s * 10 + n) / 10 = dval s by omega]
    by_cases hs : s = []
    · subst hs
      rw [show dval [] = 0 from rfl,rdec_zero];rfl
    · rw [(ih (fun x hx => h x (by simp [hx])) (fun _ => by
        have h1:=h0 (by simp)
        rw [List.getD_eq_getElem?_getD,List.getElem?_append_left (List.length_pos_iff.2 hs)] at h1
        rw [List.getD_eq_getElem?_getD];exact h1)).1]
      rfl
theorem dec_dval {s : List UInt8} (h : NatTxt s) : dec (dval s) = s:=by
  by_cases h0 : s.getD 0 0 = 48
  · have hl:=h.first h0
    match s,hl,h0 with
    | [c],_,h0 =>
      rw [List.getD_cons_zero] at h0
      subst h0
      rfl
  · obtain ⟨h1,h2⟩:=rdec_dval s h.dig fun _ => h0
    rw [dec,if_neg (h2 h.ne),h1,List.reverse_reverse]
def sgI (x y : Int) : Int:=if x < y then -1 else if x = y then 0 else 1
def sgQ (x y : Rat) : Int:=if x < y then -1 else if x = y then 0 else 1
def zD (z : Int) : D:=.agg [u32s (limbs z.natAbs), .bool (decide (z < 0))]
def qden (q : Rat) : Nat:=if q.den = 1 then 0 else q.den
def qD (q : Rat) : D:=.agg [u32s (limbs q.num.natAbs), .bool (decide (q.num < 0)),u32s (limbs (qden q))]
theorem sgQ_cross (a b : Rat) : sgI (a.num * b.den) (b.num * a.den) = sgQ a b:=by
  unfold sgI sgQ
  have h1:=Rat.lt_iff a b
  have h2 : (a = b) ↔ (a.num * (b.den : Int) = b.num * (a.den : Int)):=Rat.eq_iff_mul_eq_mul
  by_cases h : a < b
  · rw [if_pos h,if_pos (h1.1 h)]
  · rw [if_neg h,if_neg (fun h' => h (h1.2 h'))]
    by_cases h' : a = b
    · rw [if_pos h',if_pos (h2.1 h')]
    · rw [if_neg h',if_neg (fun h'' => h' (h2.2 h''))]
theorem mk_parts (n : Int) (d : Nat) (hd : d ≠ 0) : (mkRat n d).num.natAbs = n.natAbs / d.gcd n.natAbs ∧ ((mkRat n d).num < 0 ↔ n < 0) ∧ (mkRat n d).den = d / d.gcd n.natAbs:=by
  have h1:=Rat.num_mkRat n d
  have h2:=Rat.den_mkRat n d
  rw [if_neg hd] at h1 h2
  have hg : 0 < d.gcd n.natAbs:=Nat.gcd_pos_of_pos_left _ (by omega)
  have hdv : ((d.gcd n.natAbs : Nat) : Int) ∣ n:=Int.ofNat_dvd_left.2 (Nat.gcd_dvd_right _ _)
  refine ⟨?_, ?_,h2⟩
  · rw [h1,Int.natAbs_ediv_of_dvd hdv,Int.natAbs_natCast]
  · rw [h1]
    obtain ⟨k,hk⟩:=hdv
    generalize d.gcd n.natAbs = g at *
    subst hk
    rw [Int.mul_ediv_cancel_left _ (by omega)]
    have hg' : (0 : Int) < g:=by omega
    constructor
    · intro h;exact Int.mul_neg_of_pos_of_neg hg' h
    · intro h
      rcases (show k < 0 ∨ 0 ≤ k by omega) with h' | h'
      · exact h'
      · have:=Int.mul_nonneg (Int.le_of_lt hg') h';omega
open Go Go.RowKit Go.Shelf
attribute [local go_sem] Oper.semAt_some
theorem bw_u32 : BWC Tryz.prog 195:=by
  refine ⟨by kernel_rfl,fun l bx N J Jx W hN hc0 hY h0 => ?_⟩
  obtain ⟨a0,cap0,hc0⟩:=hc0
  refine callsIn_of_wp Tryz.func195 rfl trivial ?_ rfl
  simp only [Tryz.ntmps195,List.size_toArray,List.length_cons,List.length_nil,Nat.reduceAdd,Nat.reduceSub,Array.replicate_succ,Array.replicate_zero,List.push_toArray,List.append_toArray,List.nil_append,List.cons_append]
  have hw : IntKind.i64.wrap ((N : Int) - 1) = (N : Int) - 1:=wrap_i64 (by omega)
  have hro : (WF none).round = none:=rfl
  have HY:=Lib.hid hY
  clear hY
  gi_wp2
  gi_loopw [3] (fun i wr => ∃ k : Nat,k ≤ N ∧ i = .int .i64 ((k : Int) - 1) ∧ J k wr) (fun i _ => (intOf i + 1).toNat)
  case atStart => exact ⟨N,Nat.le_refl _,rfl,h0⟩
  case round =>
    obtain ⟨k,hk,rfl,hJ⟩:=hrel
    clear hw
    cases k with
    | zero =>
      gi_wp2
      go_end0
      exact ⟨⟨_,rfl⟩, .inl hJ⟩
    | succ k =>
      obtain ⟨b,o,n,cap,x,hcx,hkn,hx,h1,fn,tmps,assign,body,hy,hR⟩:=HY.out k wr (by omega) hJ
      have e1 : ((k + 1 : Nat) : Int) - 1 = (k : Int):=by omega
      rw [e1]
      gi_wp2
      refine ⟨rfl,hR.mono ?_⟩
      rintro e W3 (⟨rfl,hJ3⟩ | ⟨rfl,hJx3⟩)
      · gi_wp2
        go_roundw
        case rel => exact ⟨k,by omega,rfl,hJ3⟩
        case measure => simp [intOf]
      · gi_wp2
        refine bodyPost_ret (results_none rfl _ _ _) rfl ?_
        exact ⟨⟨_,rfl⟩, .inr hJx3⟩
attribute [go_sem] asAgg_nat flat_nat imp_nat refs_nat cl_u32s flat_u32s imp_u32s one_u32s
def lR (l : List Nat) : Nat → D:=fun i => .int .u32 ((l.getD i 0 : Nat) : Int)
theorem u32s_lR (l : List Nat) : u32s l = .ro false 1 l.length (lR l):=rfl
theorem natD_u32s (n : Nat) : natD n = .agg [u32s (limbs n)]:=rfl
def nbit (n : Nat) : Nat:=if n = 0 then 0 else n.log2 + 1
theorem nbit_lt {n k : Nat} : nbit n ≤ k ↔ n < 2 ^ k:=by
  unfold nbit
  by_cases h : n = 0
  · subst h;simp [Nat.pow_pos]
  · rw [if_neg h,Nat.succ_le_iff,Nat.log2_lt h]
theorem cut_fin {l : List Nat} {k : Nat} (hl : lows l) (h1 : k ≤ l.length) (h2 : val (l.take k) = val l) (h3 : ∀ j,j + 1 = k → l.getD j 0 ≠ 0) : limbs (val l) = l.take k:=by
  rw [← h2]
  refine limbs_val (hl.take k) fun j hj => ?_
  rw [List.length_take] at hj
  rw [getD_take (by omega)]
  exact h3 j (by omega)
theorem nat_cut {l : List Nat} (hl : lows l) (hn : l.length < 4611686018427387904) : C E 150 [u32s l] (natD (val l)):=by
  refine CG_intro Tryz.func150 rfl (by kernel_rfl) rfl (by kernel_rfl) (by kernel_rfl) rfl ?_
  simp (disch:=first|exact dd|fail) only [go_sem,seval,u32s]
  refine AL.of (fun k : Nat => k ≤ l.length ∧ val (l.take k) = val l) (fun k => k) (fun k => [(0, .ro false 1 k (lR l)),(2, .ad 0 0)]) (fun _ => [(0, .var true 1 (.agg [.nils]))]) l.length ⟨by omega,by simp⟩ ?_ ?_ ?_ ?_
  · simp (disch:=first|exact dd|fail) only [go_sem,seval]
    exact LeV.refl _
  · simp (disch:=first|exact dd|fail) only [go_sem,seval]
  · intro x _;simp (disch:=first|exact dd|fail) only [go_sem,seval]
  rintro k ⟨h1,h2⟩
  have fin : (∀ j,j + 1 = k → l.getD j 0 ≠ 0) → LeV (.agg [.ro false 1 k (lR l)]) (natD (val l)):=fun h3 => by
    have e:=cut_fin hl h1 h2 h3
    rw [natD_u32s,u32s_lR,e]
    refine LeV.agg (LesV.cons (LeV.ro (by rw [List.length_take];omega) fun i hi => Le.of_eq ?_) LesV.nil)
    rw [lR,lR,getD_take hi]
  by_cases hk : 0 < k
  · obtain ⟨j,rfl⟩ : ∃ j,k = j + 1:=⟨k - 1,by omega⟩
    have ej : (((j + 1 : Nat) : Int) - 1).toNat = j:=by omega
    by_cases h0 : l.getD j 0 = 0
    · simp (disch:=first|exact dd|fail) only [go_sem,seval,ej,lR]
      refine ⟨j,⟨by omega,by rw [← val_take (by omega) h0];exact h2⟩,Nat.lt_succ_self j, ?_, ?_⟩
      · simp (disch:=first|exact dd|fail) only [go_sem,seval]
        exact LeV.refl _
      · simp (disch:=first|exact dd|fail) only [go_sem,seval]
    · simp (disch:=first|exact dd|fail) only [go_sem,seval,ej,lR]
      exact fin fun j' hj' => by
        obtain rfl : j' = j:=by omega
        exact h0
  · obtain rfl : k = 0:=by omega
    simp (disch:=first|exact dd|fail) only [go_sem,seval]
    exact fin fun j hj => by omega
theorem nat_cut_own {l : List Nat} (hl : lows l) (hn : l.length < 4611686018427387904) (ver : Nat) : CG E 150 [.sl 0 ver 0 l.length] [(0, .row false ver false 1 l.length (lR l))] (.agg [.sl 0 ver 0 (nb (val l))]) [(0, .row false ver false 1 l.length (lR l))]:=by
  refine CG_intro Tryz.func150 rfl (by kernel_rfl) rfl (by kernel_rfl) (by kernel_rfl) rfl ?_
  simp (disch:=first|exact dd|fail) only [go_sem,seval]
  refine AL.of (fun k : Nat => k ≤ l.length ∧ val (l.take k) = val l) (fun k => k) (fun k => [(0, .sl 0 ver 0 k),(2, .ad 1 0)]) (fun _ => [(0, .row false ver false 1 l.length (lR l)),(1, .var true 1 (.agg [.nils]))]) l.length ⟨by omega,by simp⟩ ?_ ?_ ?_ ?_
  · simp (disch:=first|exact dd|fail) only [go_sem,seval]
  · simp (disch:=first|exact dd|fail) only [go_sem,seval]
    try exact fun _ _ => trivial
  · intro x _;simp (disch:=first|exact dd|fail) only [go_sem,seval]
  rintro k ⟨h1,h2⟩
  have fin : (∀ j,j + 1 = k → l.getD j 0 ≠ 0) → nb (val l) = k:=fun h3 => by
    have e:=cut_fin hl h1 h2 h3
    rw [nb,e,List.length_take];omega
  by_cases hk : 0 < k
  · obtain ⟨j,rfl⟩ : ∃ j,k = j + 1:=⟨k - 1,by omega⟩
    have ej : (((j + 1 : Nat) : Int) - 1).toNat = j:=by omega
    by_cases h0 : l.getD j 0 = 0
    · simp (disch:=first|exact dd|fail) only [go_sem,seval,ej,lR]
      refine ⟨j,⟨by omega,by rw [← val_take (by omega) h0];exact h2⟩,Nat.lt_succ_self j, ?_, ?_⟩
      · simp (disch:=first|exact dd|fail) only [go_sem,seval]
      · simp (disch:=first|exact dd|fail) only [go_sem,seval]
        try exact fun _ _ => trivial
    · have hf:=fin fun j' hj' => by
        obtain rfl : j' = j:=by omega
        exact h0
      rw [hf]
      simp (disch:=first|exact dd|fail) only [go_sem,seval,ej,lR]
      try exact fun _ _ => trivial
  · obtain rfl : k = 0:=by omega
    have hf:=fin fun j hj => by omega
    rw [hf]
    simp (disch:=first|exact dd|fail) only [go_sem,seval]
    try exact fun _ _ => trivial
theorem LesV_rows {ag : Bool} {sz n m : Nat} {f g : Nat → D} (e : n = m) (h : ∀ i,i < n → f i = g i) : LesV [.ro ag sz n f] [.ro ag sz m g]:=LesV.cons (LeV.ro e fun i hi => Le.of_eq (h i hi)) LesV.nil
theorem nat_Of {v : Nat} (h : v < 18446744073709551616) : C E 174 [.int .u64 v] (natD v):=by
  refine CG_intro Tryz.func174 rfl (by kernel_rfl) rfl (by kernel_rfl) (by kernel_rfl) rfl ?_
  have e1 : IntKind.u32.wrap (v : Int) = ((v % 4294967296 : Nat) : Int):=by rw [wrap_u32'];omega
  have e2 : IntKind.u32.wrap ((v : Int) / 4294967296) = ((v / 4294967296 : Nat) : Int):=by rw [wrap_u32'];omega
  simp (disch:=first|exact dd|fail) only [go_sem,seval,e1,e2]
  have hc:=nat_cut (l:=[v % 4294967296,v / 4294967296]) (by intro x hx;simp at hx;omega) (by simp)
  rw [show val [v % 4294967296,v / 4294967296] = v by simp only [val];omega] at hc
  refine callC hc ?_ rfl ?_
  · simp (disch:=first|exact dd|fail) only [go_sem,seval,u32s]
    refine LesV_rows rfl fun i hi => ?_
    rcases i with _ | _ | i
    · rfl
    · rfl
    · omega
  simp (disch:=first|exact dd|fail) only [go_sem,seval]
def len8 : List UInt8:=[0,1,2,2,3,3,3,3,4,4,4,4,4,4,4,4,5,5,5,5,5,5,5,5,5,5,5,5,5,5,5,5,6,6,6,6,6,6,6,6,6,6,6,6,6,6,6,6,6,6,6,6,6,6,6,6,6,6,6,6,6,6,6,6,7,7,7,7,7,7,7,7,7,7,7,7,7,7,7,7,7,7,7,7,7,7,7,7,7,7,7,7,7,7,7,7,7,7,7,7,7,7,7,7,7,7,7,7,7,7,7,7,7,7,7,7,7,7,7,7,7,7,7,7,7,7,7,7,8,8,8,8,8,8,8,8,8,8,8,8,8,8,8,8,8,8,8,8,8,8,8,8,8,8,8,8,8,8,8,8,8,8,8,8,8,8,8,8,8,8,8,8,8,8,8,8,8,8,8,8,8,8,8,8,8,8,8,8,8,8,8,8,8,8,8,8,8,8,8,8,8,8,8,8,8,8,8,8,8,8,8,8,8,8,8,8,8,8,8,8,8,8,8,8,8,8,8,8,8,8,8,8,8,8,8,8,8,8,8,8,8,8,8,8,8,8,8,8,8,8,8,8,8,8,8,8]
theorem len8_nbit (x : Nat) (h : x < 256) : (len8.getD x 0).toNat = nbit x:=by
  have : ∀ x : Fin 256,(len8.getD x.val 0).toNat = nbit x.val:=by decide +kernel
  exact this ⟨x,h⟩
theorem nbit_div (x k : Nat) (h : 2 ^ k ≤ x) : nbit x = nbit (x / 2 ^ k) + k:=by
  have hp : 0 < 2 ^ k:=Nat.two_pow_pos k
  have h0 : x / 2 ^ k ≠ 0:=fun e => by
    have:=(Nat.div_eq_zero_iff_lt hp).1 e
    omega
  have : ∀ m,nbit x ≤ m ↔ nbit (x / 2 ^ k) + k ≤ m:=fun m => by
    rw [nbit_lt]
    by_cases hm : k ≤ m
    · obtain ⟨j,rfl⟩:=Nat.exists_eq_add_of_le hm
      rw [show nbit (x / 2 ^ k) + k ≤ k + j ↔ nbit (x / 2 ^ k) ≤ j by omega,nbit_lt,Nat.div_lt_iff_lt_mul hp,Nat.pow_add,Nat.mul_comm]
    · constructor
      · intro h'
        have:=Nat.pow_le_pow_right (n:=2) (by omega) (show m ≤ k by omega)
        omega
      · intro h';omega
  exact Nat.le_antisymm ((this _).2 (Nat.le_refl _)) ((this _).1 (Nat.le_refl _))
theorem bits_Len32 {x : Nat} (hx : x < 4294967296) : C E 147 [.int .u32 x] (.int .i64 (nbit x)):=by
  refine CG_intro Tryz.func147 rfl (by kernel_rfl) rfl (by kernel_rfl) (by kernel_rfl) rfl ?_
  have w8 : ∀ y : Nat,y < 256 → IntKind.u8.wrap (y : Int) = (y : Int):=fun y hy => wrap_u8 (by omega)
  have fin : ∀ (y : Nat) (k : Int),y < 256 → 0 ≤ k → k < 30 → (nbit x : Int) = nbit y + k → LeV (.int .i64 (IntKind.i64.wrap (k + IntKind.i64.wrap ((len8.getD y 0).toNat : Int)))) (.int .i64 (nbit x)):=fun y k hy h0 h1 h => by
    have hl:=(len8.getD y 0).toNat_lt
    have he:=len8_nbit y hy
    rw [wrap_i64 (n:=((len8.getD y 0).toNat : Int)) (by omega),wrap_i64 (by omega),he,h]
    exact LeV.of_eq (by rw [Int.add_comm])
  by_cases h1 : 65536 ≤ x
  · have e1:=nbit_div x 16 h1
    have d1 : (x : Int) / 65536 = ((x / 65536 : Nat) : Int):=by omega
    by_cases h2 : 256 ≤ x / 65536
    · have e2:=nbit_div (x / 65536) 8 h2
      have d2 : ((x / 65536 : Nat) : Int) / 256 = ((x / 65536 / 256 : Nat) : Int):=by omega
      simp (disch:=first|exact dd|fail) only [go_sem,seval,d1,d2,w8,List.append_eq]
      exact fin (x / 65536 / 256) 24 (by omega) (by omega) (by omega) (by rw [show (2:Nat) ^ 16 = 65536 from rfl] at e1;rw [show (2:Nat) ^ 8 = 256 from rfl] at e2;omega)
    · simp (disch:=first|exact dd|fail) only [go_sem,seval,d1,w8,List.append_eq]
      exact fin (x / 65536) 16 (by omega) (by omega) (by omega) (by rw [show (2:Nat) ^ 16 = 65536 from rfl] at e1;omega)
  · by_cases h2 : 256 ≤ x
    · have e2:=nbit_div x 8 h2
      have d2 : (x : Int) / 256 = ((x / 256 : Nat) : Int):=by omega
      simp (disch:=first|exact dd|fail) only [go_sem,seval,d2,w8,List.append_eq]
      exact fin (x / 256) 8 (by omega) (by omega) (by omega) (by rw [show (2:Nat) ^ 8 = 256 from rfl] at e2;omega)
    · simp (disch:=first|exact dd|fail) only [go_sem,seval,w8,List.append_eq]
      exact fin x 0 (by omega) (by omega) (by omega) (by omega)
theorem limbs_ne {n : Nat} (h : n ≠ 0) : 0 < (limbs n).length:=by rw [limbs_pos h];simp
theorem nbit_limbs {n k : Nat} (hk : (limbs n).length = k + 1) : nbit n = 32 * k + nbit ((limbs n).getD k 0) ∧ (limbs n).getD k 0 ≠ 0:=by
  have hl:=limbs_low n
  have hv:=val_cut (limbs n) k (by omega)
  have hd : (limbs n).drop k = [(limbs n).getD k 0]:=by
    rw [List.drop_eq_getElem_cons (by omega),List.drop_of_length_le (by omega),List.getD_eq_getElem?_getD,List.getElem?_eq_getElem (by omega)]
    rfl
  rw [val_limbs,hd] at hv
  simp only [val,Nat.mul_zero,Nat.add_zero] at hv
  have h1:=val_ltB (lows_take hl k)
  rw [List.length_take,Nat.min_eq_left (by omega)] at h1
  have hne : (limbs n).getD k 0 ≠ 0:=fun h0 => by
    rw [h0,Nat.mul_zero,Nat.add_zero] at hv
    rw [← hv] at h1
    have:=(nb_lt (n:=n) (k:=k)).2 h1
    unfold nb at this
    omega
  have hp : (4294967296 : Nat) ^ k = 2 ^ (32 * k):=by rw [Nat.pow_mul]
  have hle : 2 ^ (32 * k) ≤ n:=by
    rw [← hp,hv]
    have : 4294967296 ^ k * 1 ≤ 4294967296 ^ k * (limbs n).getD k 0:=Nat.mul_le_mul_left _ (by omega)
    omega
  have hdiv : n / 2 ^ (32 * k) = (limbs n).getD k 0:=by
    rw [← hp]
    conv => lhs;rw [hv]
    rw [Nat.add_mul_div_left _ _ (Nat.pow_pos (by omega)),Nat.div_eq_of_lt h1,Nat.zero_add]
  refine ⟨?_,hne⟩
  rw [nbit_div n (32 * k) hle,hdiv,Nat.add_comm]
theorem nat_Bits {n : Nat} (hn : nb n < 1073741824) : C E 106 [natD n] (.int .i64 (nbit n)):=by
  refine CG_intro Tryz.func106 rfl (by kernel_rfl) rfl (by kernel_rfl) (by kernel_rfl) rfl ?_
  unfold nb at hn
  by_cases h0 : n = 0
  · subst h0
    simp (disch:=first|exact dd|fail) only [go_sem,seval,natD,u32s,limbs_zero]
    exact LeV.refl _
  obtain ⟨k,hk⟩ : ∃ k,(limbs n).length = k + 1:=⟨(limbs n).length - 1,by have:=limbs_ne h0;omega⟩
  obtain ⟨e1,e2⟩:=nbit_limbs hk
  have e3 : ((((limbs n).length : Nat) : Int) - 1).toNat = k:=by omega
  have hlt:=lows_getD (limbs_low n) k
  have hnb : nbit ((limbs n).getD k 0) ≤ 32:=nbit_lt.2 hlt
  simp (disch:=first|exact dd|fail) only [go_sem,seval,natD,u32s,e3]
  refine callCl (bits_Len32 hlt) (LesV.refl _) rfl ?_
  simp (disch:=first|exact dd|fail) only [go_sem,seval]
  exact LeV.of_eq (by rw [e1,hk];congr 1;omega)
def tz (n : Nat) : Nat:=if h : n = 0 then 0 else if n % 2 = 1 then 0 else tz (n / 2) + 1
termination_by n
decreasing_by omega
theorem tz_odd {n : Nat} (h : n % 2 = 1) : tz n = 0:=by rw [tz];simp [h]
theorem tz_two {n : Nat} (h : n ≠ 0) : tz (2 * n) = tz n + 1:=by
  rw [tz,dif_neg (by omega),if_neg (by omega),show 2 * n / 2 = n by omega]
theorem tz_pow {n : Nat} (h : n ≠ 0) : ∀ k,tz (2 ^ k * n) = k + tz n
  | 0 => by rw [Nat.pow_zero,Nat.one_mul,Nat.zero_add]
  | k + 1 => by
    have hp : 2 ^ k * n ≠ 0:=Nat.mul_ne_zero (Nat.pos_iff_ne_zero.1 (Nat.two_pow_pos k)) h
    rw [Nat.pow_succ,Nat.mul_comm (2 ^ k),Nat.mul_assoc,tz_two hp,tz_pow h k];omega
theorem tz_spec {n : Nat} (h : n ≠ 0) : ∃ a,n = 2 ^ tz n * (2 * a + 1):=by
  induction n using Nat.strongRecOn with
  | _ n ih =>
    by_cases h1 : n % 2 = 1
    · exact ⟨n / 2,by rw [tz_odd h1,Nat.pow_zero,Nat.one_mul];omega⟩
    · obtain ⟨a,ha⟩:=ih (n / 2) (by omega) (by omega)
      refine ⟨a, ?_⟩
      have e : tz n = tz (n / 2) + 1:=by rw [tz,dif_neg h,if_neg h1]
      rw [e,Nat.pow_succ,Nat.mul_comm _ 2,Nat.mul_assoc,← ha];omega
theorem low_bit (k a w : Nat) (hw : 2 ^ k * (2 * a + 1) < 2 ^ w) : (2 ^ k * (2 * a + 1)) &&& (2 ^ w - 2 ^ k * (2 * a + 1)) = 2 ^ k:=by
  have hp:=Nat.two_pow_pos k
  have hx : 0 < 2 ^ k * (2 * a + 1):=Nat.mul_pos hp (by omega)
  have e1 : 2 ^ k * (2 * a + 1) = 2 ^ k * (2 * a) + 2 ^ k:=by rw [Nat.mul_add,Nat.mul_one]
  have e2 : 2 ^ w - 2 ^ k * (2 * a + 1) = 2 ^ w - (2 ^ k * (2 * a) + (2 ^ k - 1) + 1):=by rw [e1];omega
  have hlt : 2 ^ k * (2 * a) + (2 ^ k - 1) < 2 ^ w:=by omega
  refine Nat.eq_of_testBit_eq fun i => ?_
  rw [Nat.testBit_and,e2,Nat.testBit_two_pow_sub_succ hlt,Nat.testBit_two_pow_mul_add _ (by omega),Nat.testBit_two_pow_mul,Nat.testBit_two_pow]
  by_cases h1 : i < k
  · have : ¬ k ≤ i:=by omega
    simp [h1,this];omega
  · simp only [h1,if_false]
    have h2 : k ≤ i:=by omega
    by_cases h3 : i = k
    · have hkw : k < w:=by
        refine (Nat.pow_lt_pow_iff_right (a:=2) (by omega)).1 ?_
        omega
      rw [h3]
      simp [hkw,Nat.testBit_zero]
    · obtain ⟨j,rfl⟩ : ∃ j,i = k + (j + 1):=⟨i - k - 1,by omega⟩
      rw [show k + (j + 1) - k = j + 1 by omega,Nat.testBit_succ,Nat.testBit_succ,show (2 * a + 1) / 2 = a by omega,show 2 * a / 2 = a by omega]
      have : ¬ k = k + (j + 1):=by omega
      cases a.testBit j <;> simp [this]
theorem bits_and32 (a b : Nat) (ha : a < 4294967296) (hb : b < 4294967296) : bits .u32 .and (a : Int) (b : Int) = ((a &&& b : Nat) : Int):=by
  have e : ∀ v : Nat,v < 4294967296 → (BitVec.ofInt IntKind.u32.bits (v : Int)).toNat = v:=fun v hv => by
    show (BitVec.ofInt 32 (v : Int)).toNat = v
    simp;omega
  have hlt : a &&& b < 4294967296:=Nat.and_lt_two_pow (n:=32) _ hb
  unfold bits
  simp only [BitVec.toNat_and,e a ha,e b hb]
  rw [wrap_u32 (by omega)]
theorem deBr_at : ∀ k : Nat,k < 32 → 2 ^ k * 125613361 % 4294967296 / 134217728 < 32 ∧ deBr.getD (2 ^ k * 125613361 % 4294967296 / 134217728) 0 = (k : Int):=by decide +kernel
theorem gv_deBr : E.gv 0 = .ra true 32 deBrD 0:=Eq.trans rfl rfl
theorem deBr_len : deBr.length = 32:=rfl
theorem tz_table {x : Nat} (h0 : x ≠ 0) (hx : x < 4294967296) : ∃ p q j : Nat,bits .u32 .and (x : Int) (IntKind.u32.wrap (0 - (x : Int))) = (p : Int) ∧ IntKind.u32.wrap ((p : Int) * 125613361) = (q : Int) ∧ (q : Int) / 134217728 = (j : Int) ∧ j < 32 ∧ deBr.getD j 0 = (tz x : Int):=by
  obtain ⟨a,ha⟩:=tz_spec h0
  generalize tz x = k at *
  have hk : k < 32:=by
    refine (Nat.pow_lt_pow_iff_right (a:=2) (by omega)).1 ?_
    have : 2 ^ k * 1 ≤ 2 ^ k * (2 * a + 1):=Nat.mul_le_mul_left _ (by omega)
    omega
  have hl:=low_bit k a 32 (by rw [← ha];exact hx)
  rw [← ha,show (2 : Nat) ^ 32 = 4294967296 from rfl] at hl
  have e1 : IntKind.u32.wrap (0 - (x : Int)) = ((4294967296 - x : Nat) : Int):=by rw [wrap_u32'];omega
  have e2 : bits .u32 .and (x : Int) ((4294967296 - x : Nat) : Int) = ((2 ^ k : Nat) : Int):=by
    rw [bits_and32 _ _ hx (by omega),hl]
  obtain ⟨h1,h2⟩:=deBr_at k hk
  refine ⟨2 ^ k,2 ^ k * 125613361 % 4294967296,2 ^ k * 125613361 % 4294967296 / 134217728,by rw [e1,e2], ?_, ?_,h1,h2⟩
  · rw [wrap_u32'];generalize 2 ^ k = p;omega
  · generalize 2 ^ k * 125613361 % 4294967296 = q;omega
theorem deBr_map {j k : Nat} (h1 : j < 32) (h2 : deBr.getD j 0 = (k : Int)) : (deBr.map fun n => D.int .u8 n).getD j .unk = .int .u8 (k : Int):=by
  rw [List.getD_eq_getElem?_getD] at h2 ⊢
  rw [List.getElem?_map]
  have hj : j < deBr.length:=h1
  rw [List.getElem?_eq_getElem hj] at h2 ⊢
  simp only [Option.getD_some,Option.map_some] at h2 ⊢
  rw [h2]
theorem bits_TrailingZeros32 {x : Nat} (h0 : x ≠ 0) (hx : x < 4294967296) : C E 187 [.int .u32 x] (.int .i64 (tz x)):=by
  refine CG_intro Tryz.func187 rfl (by kernel_rfl) rfl (by kernel_rfl) (by kernel_rfl) rfl ?_
  obtain ⟨p,q,j,e2,e3,e4,h1,h2⟩:=tz_table h0 hx
  have hk : (tz x : Int) < 32:=by
    have : ∀ j : Nat,j < 32 → deBr.getD j 0 < 32:=by decide +kernel
    rw [← h2];exact this j h1
  have hb:=deBr_map h1 h2
  generalize tz x = k at *
  clear h2
  simp (disch:=first|exact dd|fail) only [go_sem,seval,e2,e3,e4,gv_deBr,deBrD,deBr_len,hb]
theorem bits_LeadingZeros32 {x : Nat} (hx : x < 4294967296) : C E 193 [.int .u32 x] (.int .i64 ((32 - nbit x : Nat) : Int)):=by
  refine CG_intro Tryz.func193 rfl (by kernel_rfl) rfl (by kernel_rfl) (by kernel_rfl) rfl ?_
  have hnb : nbit x ≤ 32:=nbit_lt.2 hx
  simp (disch:=first|exact dd|fail) only [go_sem,seval]
  refine callC (bits_Len32 hx) (LesV.refl _) rfl ?_
  simp (disch:=first|exact dd|fail) only [go_sem,seval]
  exact LeV.of_eq (by congr 1;omega)
theorem tz_add (x r : Nat) (h0 : x ≠ 0) (hx : x < 4294967296) : tz (x + 4294967296 * r) = tz x:=by
  obtain ⟨a,ha⟩:=tz_spec h0
  have hk : tz x < 32:=by
    refine (Nat.pow_lt_pow_iff_right (a:=2) (by omega)).1 ?_
    have : 2 ^ tz x * 1 ≤ 2 ^ tz x * (2 * a + 1):=Nat.mul_le_mul_left _ (by omega)
    omega
  generalize tz x = t at *
  obtain ⟨j,hj⟩ : ∃ j,32 = t + (j + 1):=⟨31 - t,by omega⟩
  have e : x + 4294967296 * r = 2 ^ t * (2 * (a + 2 ^ j * r) + 1):=by
    have h32 : (4294967296 : Nat) = 2 ^ t * (2 * 2 ^ j):=by
      rw [show 2 * 2 ^ j = 2 ^ (j + 1) by rw [Nat.pow_succ,Nat.mul_comm],← Nat.pow_add,← hj]
    conv => lhs;rw [h32,ha]
    rw [Nat.mul_assoc,← Nat.mul_add,Nat.mul_assoc 2]
    congr 1
    omega
  rw [e,tz_pow (n:=2 * (a + 2 ^ j * r) + 1) (by omega),tz_odd (n:=2 * (a + 2 ^ j * r) + 1) (by omega),Nat.add_zero]
theorem tz_limbs {n i : Nat} (hz : ∀ j,j < i → (limbs n).getD j 0 = 0) (hx : (limbs n).getD i 0 ≠ 0) : tz n = 32 * i + tz ((limbs n).getD i 0):=by
  have hil : i < (limbs n).length:=by
    rcases Nat.lt_or_ge i (limbs n).length with h | h
    · exact h
    · exact absurd (by rw [List.getD_eq_getElem?_getD,List.getElem?_eq_none h];rfl) hx
  have hv:=val_cut (limbs n) i (by omega)
  have hd : (limbs n).drop i = (limbs n).getD i 0 :: (limbs n).drop (i + 1):=by
    rw [List.drop_eq_getElem_cons hil,List.getD_eq_getElem?_getD,List.getElem?_eq_getElem hil];rfl
  have ht : val ((limbs n).take i) = 0:=val_zero_iff.2 fun x hx' => by
    obtain ⟨j,hj,rfl⟩:=List.getElem_of_mem hx'
    rw [List.length_take] at hj
    have:=hz j (by omega)
    rw [List.getD_eq_getElem?_getD,List.getElem?_eq_getElem (by omega)] at this
    rw [List.getElem_take];exact this
  rw [val_limbs,ht,hd,val,Nat.zero_add,show (4294967296 : Nat) ^ i = 2 ^ (32 * i) by rw [Nat.pow_mul]] at hv
  have hlt:=lows_getD (limbs_low n) i
  conv => lhs;rw [hv]
  rw [tz_pow (by omega),tz_add _ _ hx hlt]
theorem nat_Zeros {n : Nat} (hn : nb n < 1073741824) : C E 165 [natD n] (.int .i64 (tz n)):=by
  refine CG_intro Tryz.func165 rfl (by kernel_rfl) rfl (by kernel_rfl) (by kernel_rfl) rfl ?_
  unfold nb at hn
  simp (disch:=first|exact dd|fail) only [go_sem,seval,natD,u32s]
  refine AL.of (fun i : Nat => i ≤ (limbs n).length ∧ ∀ j,j < i → (limbs n).getD j 0 = 0) (fun i => (limbs n).length - i)
    (fun i => [(6, .ro false 1 (limbs n).length (lR (limbs n))),(7, .int .i64 (limbs n).length),(8, .int .i64 i)]) (fun _ => []) 0 ⟨by omega,fun j h => by omega⟩ ?_ ?_ ?_ ?_
  · simp (disch:=first|exact dd|fail) only [go_sem,seval]
    exact LeV.refl _
  · trivial
  · intro x _;simp (disch:=first|exact dd|fail) only [go_sem,seval]
  rintro i ⟨hi,hz⟩
  by_cases hil : i = (limbs n).length
  · subst hil
    simp (disch:=first|exact dd|fail) only [go_sem,seval]
    have h0 : n = 0:=by
      rw [← val_limbs n]
      refine val_zero_iff.2 fun x hx => ?_
      obtain ⟨j,hj,rfl⟩:=List.getElem_of_mem hx
      have:=hz j hj
      rw [List.getD_eq_getElem?_getD,List.getElem?_eq_getElem hj] at this
      exact this
    exact LeV.of_eq (by rw [h0,tz];rfl)
  · have hlt:=lows_getD (limbs_low n) i
    by_cases hx : (limbs n).getD i 0 = 0
    · simp (disch:=first|exact dd|fail) only [go_sem,seval,lR]
      refine ⟨i + 1,⟨by omega,fun j hj => ?_⟩,by show (limbs n).length - (i + 1) < (limbs n).length - i;omega, ?_, ?_⟩
      · by_cases e : j = i
        · subst e;exact hx
        · exact hz j (by omega)
      · simp (disch:=first|exact dd|fail) only [go_sem,seval]
        exact LeV.of_eq (by rw [Int.natCast_succ])
      · trivial
    · have ht:=tz_limbs hz hx
      have htl : tz ((limbs n).getD i 0) < 32:=by
        obtain ⟨a,ha⟩:=tz_spec hx
        refine (Nat.pow_lt_pow_iff_right (a:=2) (by omega)).1 ?_
        have : 2 ^ tz ((limbs n).getD i 0) * 1 ≤ 2 ^ tz ((limbs n).getD i 0) * (2 * a + 1):=Nat.mul_le_mul_left _ (by omega)
        omega
      simp (disch:=first|exact dd|fail) only [go_sem,seval,lR]
      refine callC (bits_TrailingZeros32 hx hlt) (LesV.refl _) rfl ?_
      simp (disch:=first|exact dd|fail) only [go_sem,seval]
      exact LeV.of_eq (by rw [ht];congr 1;try omega)
theorem backward_u32 (l : List Nat) : CG E 178 [u32s l] [] (.fn 195 [.ad 0 0]) [(0, .var false 1 (u32s l))]:=by
  refine CG_intro Tryz.func178 rfl (by kernel_rfl) rfl (by kernel_rfl) (by kernel_rfl) rfl ?_
  simp (disch:=first|exact dd|fail) only [go_sem,seval]
theorem cmp_len {a b : Nat} (h : (limbs a).length < (limbs b).length) : a < b:=by
  have h1:=(nb_lt (n:=a) (k:=(limbs a).length)).1 (Nat.le_refl _)
  rcases Nat.lt_or_ge a b with h' | h'
  · exact h'
  · have:=(nb_lt (n:=b) (k:=(limbs a).length)).2 (by omega)
    unfold nb at this
    omega
theorem cmp_at {l m : List Nat} {k : Nat} (hl : lows l) (hm : lows m) (e : l.length = m.length) (hk : k < l.length) (hd : l.drop (k + 1) = m.drop (k + 1)) (h : l.getD k 0 < m.getD k 0) : val l < val m:=by
  have h1:=val_cut l (k + 1) (by omega)
  have h2:=val_cut m (k + 1) (by omega)
  rw [val_take_succ,hd] at h1
  rw [val_take_succ] at h2
  have h3:=val_ltB (lows_take hl k)
  rw [List.length_take,Nat.min_eq_left (by omega)] at h3
  have h4 : 4294967296 ^ k * l.getD k 0 + 4294967296 ^ k ≤ 4294967296 ^ k * m.getD k 0:=by
    rw [← Nat.mul_succ];exact Nat.mul_le_mul_left _ h
  rw [h1,h2]
  generalize 4294967296 ^ (k + 1) * val (m.drop (k + 1)) = t at *
  generalize 4294967296 ^ k * l.getD k 0 = u at *
  generalize 4294967296 ^ k * m.getD k 0 = v at *
  omega
theorem sgI_lt {x y : Int} (h : x < y) : sgI x y = -1:=by rw [sgI,if_pos h]
theorem sgI_gt {x y : Int} (h : y < x) : sgI x y = 1:=by rw [sgI,if_neg (by omega),if_neg (by omega)]
theorem sgI_eq (x : Int) : sgI x x = 0:=by rw [sgI,if_neg (by omega),if_pos rfl]
theorem sgI_cases (x y : Int) : (x < y ∧ sgI x y = -1) ∨ (x = y ∧ sgI x y = 0) ∨ (y < x ∧ sgI x y = 1):=by
  rcases Int.lt_trichotomy x y with h | h | h
  · exact .inl ⟨h,sgI_lt h⟩
  · subst h;exact .inr (.inl ⟨rfl,sgI_eq x⟩)
  · exact .inr (.inr ⟨h,sgI_gt h⟩)
theorem drop_eq_succ {l m : List Nat} {k : Nat} (e : l.length = m.length) (hk : k < l.length) (hd : l.drop (k + 1) = m.drop (k + 1)) (h : l.getD k 0 = m.getD k 0) : l.drop k = m.drop k:=by
  rw [List.drop_eq_getElem_cons hk,List.drop_eq_getElem_cons (l:=m) (i:=k) (by omega),hd]
  rw [List.getD_eq_getElem?_getD,List.getD_eq_getElem?_getD,List.getElem?_eq_getElem hk,List.getElem?_eq_getElem (l:=m) (by omega)] at h
  simp only [Option.getD_some] at h
  rw [h]
theorem nat_Cmp {a b : Nat} (ha : nb a < 1073741824) (hb : nb b < 1073741824) : C E 189 [natD a,natD b] (.int .i64 (sgI a b)):=by
  refine CG_intro Tryz.func189 rfl (by kernel_rfl) rfl (by kernel_rfl) (by kernel_rfl) rfl ?_
  unfold nb at ha hb
  simp (disch:=first|exact dd|fail) only [go_sem,seval,natD,u32s]
  by_cases h1 : (limbs a).length < (limbs b).length
  · have:=cmp_len h1
    simp (disch:=first|exact dd|fail) only [go_sem,seval,natD,u32s]
    exact LeV.of_eq (by rw [sgI_lt (by omega)])
  by_cases h2 : (limbs b).length < (limbs a).length
  · have:=cmp_len h2
    simp (disch:=first|exact dd|fail) only [go_sem,seval,natD,u32s]
    exact LeV.of_eq (by rw [sgI_gt (by omega)])
  have e : (limbs a).length = (limbs b).length:=by omega
  have va:=val_limbs a
  have vb:=val_limbs b
  have la:=limbs_low a
  have lb:=limbs_low b
  generalize limbs a = l at *
  generalize limbs b = m at *
  subst va vb
  have fin : ∀ c : Int,sgI ((val l : Nat) : Int) ((val m : Nat) : Int) = c → LeV (.int .i64 c) (.int .i64 (sgI ((val l : Nat) : Int) ((val m : Nat) : Int))):=fun c h => LeV.of_eq (by rw [h])
  simp (disch:=first|exact dd|fail) only [go_sem,seval,natD,u32s,e]
  refine callG [] (backward_u32 l) rfl rfl ?_ rfl ?_
  · simp (disch:=first|exact dd|fail) only [go_sem,seval,u32s,e]
  simp (disch:=first|exact dd|fail) only [go_sem,seval,u32s,e]
  refine AB.of 195 3 (fun k : Nat => k ≤ m.length ∧ l.drop k = m.drop k) (fun k => k) (fun _ => [(2, .ad 0 0),(3, .ad 1 0),(4, .ad 2 0),(23, .fn 195 [.ad 3 0])])
    (fun _ => [(3, .var false 1 (u32s l)),(2, .var false 1 (.int .i64 0)),(1, .var true 1 (.agg [u32s m])),(0, .var true 1 (.agg [u32s l]))]) m.length bw_u32 ⟨by omega,by rw [List.drop_of_length_le (by omega),List.drop_of_length_le (by omega)]⟩ ?_ ?_ ?_ (y:=u32s l) ?_ ?_ (by omega) ?_ ?_ ?_
  · simp (disch:=first|exact dd|fail) only [go_sem,seval,u32s,e]
  · simp (disch:=first|exact dd|fail) only [go_sem,seval,u32s,e]
    try exact ⟨LeV.refl _,LeV.refl _,LeV.refl _⟩
  · simp (disch:=first|exact dd|fail) only [go_sem,seval]
  · simp (disch:=first|exact dd|fail) only [go_sem,seval]
  · simp (disch:=first|exact dd|fail) only [go_sem,seval,u32s,e]
  · intro x' _;simp (disch:=first|exact dd|fail) only [go_sem,seval]
  · rintro x' ⟨_,h⟩ rfl
    simp (disch:=first|exact dd|fail) only [go_sem,seval,u32s]
    rw [List.drop_zero,List.drop_zero] at h
    subst h
    exact fin 0 (sgI_eq _)
  · rintro x' k ⟨hk1,hd⟩ hk rfl
    have g1:=la.getD k
    have g2:=lb.getD k
    refine ⟨u32s l, .int .u32 ((l.getD k 0 : Nat) : Int),rfl,by simp [elt,u32s];omega, ?_⟩
    by_cases c1 : l.getD k 0 < m.getD k 0
    · have:=cmp_at la lb e (by omega) hd c1
      simp (disch:=first|exact dd|fail) only [go_sem,seval,u32s]
      exact fin (-1) (sgI_lt (by omega))
    by_cases c2 : m.getD k 0 < l.getD k 0
    · have:=cmp_at lb la e.symm (by omega) hd.symm c2
      simp (disch:=first|exact dd|fail) only [go_sem,seval,u32s]
      exact fin 1 (sgI_gt (by omega))
    · simp (disch:=first|exact dd|fail) only [go_sem,seval,u32s]
      refine BGo.of k (by simp (disch:=first|exact dd|fail) only [go_sem,seval]) ⟨by omega,drop_eq_succ e (by omega) hd (by omega)⟩ rfl (by simp [mx]) ?_ ?_
      · simp (disch:=first|exact dd|fail) only [go_sem,seval,u32s]
      · simp (disch:=first|exact dd|fail) only [go_sem,seval,u32s]
theorem lR_set' {w : List Nat} {i d j : Nat} (hi : i < w.length) : (if j = i then D.int .u32 ((d : Nat) : Int) else lR w j) = lR (w.set i d) j:=by
  unfold lR
  by_cases h : j = i
  · subst h
    rw [if_pos rfl,List.getD_eq_getElem?_getD,List.getElem?_set_self hi];rfl
  · rw [if_neg h,List.getD_eq_getElem?_getD,List.getD_eq_getElem?_getD,List.getElem?_set_ne (fun e => h e.symm)]
theorem lR_snoc {w : List Nat} {d j n : Nat} (hn : w.length = n) (hj : j < n + 1) : (if j < n then lR w j else [D.int .u32 ((d : Nat) : Int)].getD (j - n) .unk) = lR (w ++ [d]) j:=by
  unfold lR
  by_cases h : j < n
  · rw [if_pos h,List.getD_eq_getElem?_getD,List.getD_eq_getElem?_getD,List.getElem?_append_left (by omega)]
  · obtain rfl : j = n:=by omega
    rw [if_neg h,Nat.sub_self,List.getD_cons_zero,List.getD_eq_getElem?_getD,List.getElem?_append_right (by omega)]
    simp [hn]
theorem canon {w : List Nat} (hw : lows w) (h : ∀ k,k + 1 = w.length → 4294967296 ^ k ≤ val w) : limbs (val w) = w:=by
  refine limbs_val hw fun k hk h0 => ?_
  have h1:=h k hk
  have h2 : val w = val (w.take (k + 1)):=by rw [List.take_of_length_le (by omega)]
  rw [h2,val_take_succ,h0,Nat.mul_zero,Nat.add_zero] at h1
  have h3:=val_ltB (lows_take hw k)
  rw [List.length_take,Nat.min_eq_left (by omega)] at h3
  omega
theorem limbs_great {m k : Nat} (h : k + 1 = nb m) : 4294967296 ^ k ≤ m:=by
  rcases Nat.lt_or_ge m (4294967296 ^ k) with h' | h'
  · have:=nb_lt.2 h'
    omega
  · exact h'
theorem grow_step {w x : List Nat} {i c d c' q r : Nat} (hi : i < w.length) (hinv : val (w.take i) + 4294967296 ^ i * c = val (x.take i) * q + r) (hs : d + 4294967296 * c' = c + x.getD i 0 * q) :
    val ((w.set i d).take (i + 1)) + 4294967296 ^ (i + 1) * c' = val (x.take (i + 1)) * q + r:=by
  rw [set_take_val hi,val_take_succ x,Nat.pow_succ]
  have h2 : 4294967296 ^ i * (d + 4294967296 * c') = 4294967296 ^ i * (c + x.getD i 0 * q):=by rw [hs]
  generalize 4294967296 ^ i = p at *
  rw [Nat.mul_assoc,Nat.add_mul,Nat.mul_assoc p]
  rw [Nat.mul_add,Nat.mul_add] at h2
  generalize p * (4294967296 * c') = m3 at *
  generalize p * c = m4 at *
  generalize p * (x.getD i 0 * q) = m5 at *
  generalize val (x.take i) * q = m7 at *
  generalize p * d = m6 at *
  omega
def GroP (x : List Nat) (q r : Nat) (s : Nat × Nat × List Nat) : Prop:=s.1 ≤ x.length ∧ s.2.1 < 4294967296 ∧ s.2.2.length = x.length ∧ lows s.2.2 ∧ s.2.2.drop s.1 = x.drop s.1 ∧ val (s.2.2.take s.1) + 4294967296 ^ s.1 * s.2.1 = val (x.take s.1) * q + r
theorem GroP.next {x w : List Nat} (hx : lows x) {q r i c : Nat} (hq : q < 4294967296) (h : GroP x q r (i,c,w)) (hi : i < x.length) :
    w.getD i 0 = x.getD i 0 ∧ c + x.getD i 0 * q < 18446744073709551616 ∧ x.getD i 0 * q < 18446744073709551616 ∧ GroP x q r (i + 1,(c + x.getD i 0 * q) / 4294967296,w.set i ((c + x.getD i 0 * q) % 4294967296)):=by
  obtain ⟨h1,h2,h3,h4,h5,h6⟩:=h
  simp only at h1 h2 h3 h4 h5 h6
  have g1:=hx.getD i
  have hm : x.getD i 0 * q ≤ 4294967295 * 4294967295:=Nat.mul_le_mul (by omega) (by omega)
  have hg:=getD_of_drop h5
  have hstep:=grow_step (w:=w) (d:=(c + x.getD i 0 * q) % 4294967296) (c':=(c + x.getD i 0 * q) / 4294967296) (by omega) h6 (by omega)
  clear h6
  generalize x.getD i 0 * q = p at *
  refine ⟨hg,by omega,by omega,by simp only;omega,by show (c + p) / 4294967296 < 4294967296;omega,by simp only [List.length_set];exact h3,lows_set h4 (by omega), ?_,hstep⟩
  show (w.set i _).drop (i + 1) = x.drop (i + 1)
  rw [set_drop];exact drop_succ_of h5
theorem GroP.fin {m q r c : Nat} {w : List Nat} (hq : 0 < q) (h : GroP (limbs m) q r ((limbs m).length,c,w)) :
    (c = 0 → limbs (m * q + r) = w) ∧ (0 < c → limbs (m * q + r) = w ++ [c]):=by
  obtain ⟨h1,h2,h3,h4,h5,h6⟩:=h
  simp only at h1 h2 h3 h4 h5 h6
  rw [List.take_of_length_le (by omega),List.take_of_length_le (Nat.le_refl _),val_limbs] at h6
  constructor
  · intro h0
    subst h0
    rw [Nat.mul_zero,Nat.add_zero] at h6
    rw [← h6]
    refine canon h4 fun k hk => ?_
    have h7:=limbs_great (m:=m) (k:=k) (by unfold nb;omega)
    have h8 : m * 1 ≤ m * q:=Nat.mul_le_mul_left _ hq
    omega
  · intro h0
    have h7 : val (w ++ [c]) = m * q + r:=by
      rw [val_append,← h6,h3];simp [val]
    rw [← h7]
    refine limbs_val (lows_app h4 fun x hx => by rw [List.mem_singleton.1 hx];exact h2) fun k hk => ?_
    rw [List.length_append,List.length_singleton] at hk
    obtain rfl : k = w.length:=by omega
    rw [List.getD_eq_getElem?_getD,List.getElem?_append_right (Nat.le_refl _)]
    simp;omega
theorem nat_grow {m q r : Nat} (hm : nb m < 1073741824) (hq0 : 0 < q) (hq : q < 4294967296) (hr : r < 4294967296) : CG E 171 [.sl 0 (nb m) 0 (nb m), .int .u32 q, .int .u32 r] [(0, .row false (nb m) false 1 (nb m) (lR (limbs m)))]
    (.sl 0 (nb (m * q + r)) 0 (nb (m * q + r))) [(0, .row false (nb (m * q + r)) false 1 (nb (m * q + r)) (lR (limbs (m * q + r))))]:=by
  refine CG_intro Tryz.func171 rfl (by kernel_rfl) rfl (by kernel_rfl) (by kernel_rfl) rfl ?_
  have hl:=limbs_low m
  unfold nb at hm ⊢
  have hlen : ∀ n : Nat,n = (limbs m).length → n < 1073741824:=fun n h => by omega
  generalize hN : (limbs m).length = N at *
  simp (disch:=first|exact dd|fail) only [go_sem,seval]
  refine AL.of (GroP (limbs m) q r) (fun s => N - s.1) (fun s => [(0, .sl 0 N 0 N),(1, .int .u32 q),(2, .int .u32 r),(7, .int .u64 s.2.1),(12, .sl 0 N 0 N),(13, .int .i64 N),(14, .int .i64 s.1)])
    (fun s => [(0, .row false N false 1 N (lR s.2.2))]) (0,r,limbs m) ⟨by simp,hr,rfl,hl,rfl,by simp [val]⟩ ?_ ?_ ?_ ?_
  · simp (disch:=first|exact dd|fail) only [go_sem,seval]
  · simp (disch:=first|exact dd|fail) only [go_sem,seval]
    try exact fun _ _ => trivial
  · intro x _;simp (disch:=first|exact dd|fail) only [go_sem,seval]
  rintro ⟨i,c,w⟩ hP
  have hc:=hP.2.1
  have hwl:=hP.2.2.1
  have hi0:=hP.1
  simp only at hc hwl hi0
  rw [hN] at hwl hi0
  by_cases hi : i = N
  · subst hi
    have hP':=hP
    rw [← hN] at hP'
    obtain ⟨f1,f2⟩:=hP'.fin hq0
    clear hP hP'
    by_cases h0 : c = 0
    · have e:=f1 h0
      rw [e,hwl]
      simp (disch:=first|exact dd|fail) only [go_sem,seval]
      try exact fun _ _ => trivial
    · have e:=f2 (by omega)
      have ew : IntKind.u32.wrap (c : Int) = (c : Int):=wrap_u32 (by omega)
      rw [e,List.length_append,List.length_singleton,hwl]
      simp (disch:=first|exact dd|fail) only [go_sem,seval,ew]
      refine ⟨.inl trivial, .inr trivial,by omega,by omega, ?_⟩
      try exact fun j hj => Le.of_eq (lR_snoc hwl hj)
  · obtain ⟨g1,g2,g3,g4⟩:=hP.next hl hq (by omega)
    clear hP
    have e1 : IntKind.u32.wrap ((c : Int) + ((limbs m).getD i 0 : Nat) * (q : Int)) = (((c + (limbs m).getD i 0 * q) % 4294967296 : Nat) : Int):=by
      rw [wrap_u32',← Int.natCast_mul];generalize (limbs m).getD i 0 * q = p;omega
    have e2 : ((c : Int) + ((limbs m).getD i 0 : Nat) * (q : Int)) / 4294967296 = (((c + (limbs m).getD i 0 * q) / 4294967296 : Nat) : Int):=by
      rw [← Int.natCast_mul];generalize (limbs m).getD i 0 * q = p;omega
    have e3 : IntKind.u64.wrap (((limbs m).getD i 0 : Nat) * (q : Int)) = ((limbs m).getD i 0 : Nat) * (q : Int):=by
      rw [← Int.natCast_mul];exact wrap_u64 (by omega)
    have e4 : IntKind.u64.wrap ((c : Int) + ((limbs m).getD i 0 : Nat) * (q : Int)) = (c : Int) + ((limbs m).getD i 0 : Nat) * (q : Int):=by
      rw [← Int.natCast_mul];exact wrap_u64 (by omega)
    have hlt:=hl.getD i
    generalize hx : (limbs m).getD i 0 = x at *
    simp (disch:=first|exact dd|fail) only [go_sem,seval,lR,g1,hx,e1,e2,e3,e4]
    refine ⟨_,g4,by show N - (i + 1) < N - i;omega, ?_, ?_⟩
    · simp (disch:=first|exact dd|fail) only [go_sem,seval]
      try exact LeV.of_eq (by rw [Int.natCast_succ])
    · simp (disch:=first|exact dd|fail) only [go_sem,seval]
      try exact fun j hj => Le.of_eq (lR_set' (by omega))
theorem sum_step {w x y : List Nat} {i c d c' : Nat} (hi : i < w.length) (hinv : val (w.take i) + 4294967296 ^ i * c = val (x.take i) + val (y.take i)) (hs : d + 4294967296 * c' = c + x.getD i 0 + y.getD i 0) :
    val ((w.set i d).take (i + 1)) + 4294967296 ^ (i + 1) * c' = val (x.take (i + 1)) + val (y.take (i + 1)):=by
  rw [set_take_val hi,val_take_succ x,val_take_succ y,Nat.pow_succ]
  have h2 : 4294967296 ^ i * (d + 4294967296 * c') = 4294967296 ^ i * (c + x.getD i 0 + y.getD i 0):=by rw [hs]
  generalize 4294967296 ^ i = p at *
  rw [Nat.mul_assoc]
  rw [Nat.mul_add,Nat.mul_add,Nat.mul_add] at h2
  generalize p * (4294967296 * c') = m3 at *
  generalize p * c = m4 at *
  generalize p * x.getD i 0 = m5 at *
  generalize p * y.getD i 0 = m7 at *
  generalize p * d = m6 at *
  omega
theorem dif_step {w x y : List Nat} {i c d c' : Nat} (hi : i < w.length) (hinv : val (w.take i) + val (y.take i) = val (x.take i) + 4294967296 ^ i * c) (hs : d + y.getD i 0 + c = x.getD i 0 + 4294967296 * c') :
    val ((w.set i d).take (i + 1)) + val (y.take (i + 1)) = val (x.take (i + 1)) + 4294967296 ^ (i + 1) * c':=by
  rw [set_take_val hi,val_take_succ x,val_take_succ y,Nat.pow_succ]
  have h2 : 4294967296 ^ i * (d + y.getD i 0 + c) = 4294967296 ^ i * (x.getD i 0 + 4294967296 * c'):=by rw [hs]
  generalize 4294967296 ^ i = p at *
  rw [Nat.mul_assoc]
  rw [Nat.mul_add,Nat.mul_add,Nat.mul_add] at h2
  generalize p * (4294967296 * c') = m3 at *
  generalize p * c = m4 at *
  generalize p * x.getD i 0 = m5 at *
  generalize p * y.getD i 0 = m7 at *
  generalize p * d = m6 at *
  omega
theorem getD_out' {l : List Nat} {i : Nat} (h : l.length ≤ i) : l.getD i 0 = 0:=by
  rw [List.getD_eq_getElem?_getD,List.getElem?_eq_none h];rfl
end Go.Proofs.YtakaojkfipnfcaaGreatDoor.Lv
