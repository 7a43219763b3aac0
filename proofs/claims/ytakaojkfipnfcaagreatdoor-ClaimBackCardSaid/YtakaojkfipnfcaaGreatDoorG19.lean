/- Bounds of halves. Arguments: rows of pairs of texts, rows of numbers. Arguments: rows of pairs of texts with their bounds. Numbers as bytes: the plain law. Numbers as bytes: Put, of the program and of the reference. Numbers as bytes: Get, of the program and of the reference. Numbers as bytes: the reference's Get. The document's numbers: NatText. The document's numbers: NatText: the walk. The program's numbers: short and cut of a row's first limbs; Reverse. The program's numbers: Text. Texts of whole numbers and quotients, the program's and the document's. -/
import Derived.Test.YtakaojkfipnfcaaGreatDoorG18
import Derived.Test.YtakaojkfipnfcaaGreatDoorG10
import Derived.Test.YtakaojkfipnfcaaGreatDoorG14
import Derived.Test.YtakaojkfipnfcaaGreatDoorG12
import Derived.Test.YtakaojkfipnfcaaGreatDoorG11
set_option linter.unusedVariables false
set_option linter.unusedSimpArgs false
set_option maxRecDepth 100000
set_option maxHeartbeats 4000000
namespace Go.Proofs.YtakaojkfipnfcaaGreatDoor.Lv
open Go Go.RowKit
theorem rightB_iff {l : List (Rat × Rat)} : rightB l = true ↔ (∀ p ∈ l,p.1 < p.2) ∧ 1 ≤ l.length ∧ l.length ≤ 3:=by
  unfold rightB
  rw [Bool.and_eq_true,Bool.and_eq_true,List.all_eq_true,decide_eq_true_iff,decide_eq_true_iff]
  constructor
  · rintro ⟨⟨h1,h2⟩,h3⟩
    exact ⟨fun p hp => of_decide_eq_true (h1 p hp),h2,h3⟩
  · rintro ⟨h1,h2,h3⟩
    exact ⟨⟨fun p hp => decide_eq_true (h1 p hp),h2⟩,h3⟩
def BxB (k n : Nat) (l : List (Rat × Rat)) : Prop:=rightB l = true ∧ l.length = n ∧ ∀ p ∈ l,qb k p.1 ∧ qb k p.2
theorem boxR_ok {l : List (Txt × Txt)} (h : (boxR l).2 = 0) : BxB 4001 (boxR l).1.length (boxR l).1 ∧ 1 ≤ (boxR l).1.length ∧ (boxR l).1.length ≤ 3:=by
  have hs : ∀ p : Txt × Txt,(sideR p.1 p.2).2 = 0 → (sideR p.1 p.2).1.1 < (sideR p.1 p.2).1.2 ∧ qb 4001 (sideR p.1 p.2).1.1 ∧ qb 4001 (sideR p.1 p.2).1.2:=fun p => by
    obtain ⟨q1,q2,_⟩:=spR_qb p.1 p.2
    unfold sideR
    generalize spR p.1 p.2 = s at *
    split
    · rename_i h;intro h2;exact absurd h2 h
    · split
      · intro h2;exact absurd h2 (by decide)
      · rename_i h
        split
        · intro _;exact ⟨by grind,q1,q2⟩
        · intro h2;exact absurd h2 (by decide)
  unfold boxR at h ⊢
  split at h
  · exact absurd h (by decide)
  · rename_i hlen
    rw [if_neg hlen]
    unfold sidesR at h ⊢
    split at h
    · rename_i p hp
      have:=List.find?_some hp
      exact absurd h (of_decide_eq_true this)
    · rename_i hf
      have hz : ∀ p ∈ l,(sideR p.1 p.2).2 = 0:=fun p hp => by
        have:=List.find?_eq_none.1 hf p hp
        simpa using this
      have hm : ∀ q ∈ l.map (fun p => (sideR p.1 p.2).1),q.1 < q.2 ∧ qb 4001 q.1 ∧ qb 4001 q.2:=fun q hq => by
        obtain ⟨p,hp,rfl⟩:=List.mem_map.1 hq
        exact hs p (hz p hp)
      refine ⟨⟨rightB_iff.2 ⟨fun q hq => (hm q hq).1, ?_, ?_⟩,rfl,fun q hq => (hm q hq).2⟩, ?_, ?_⟩
      all_goals
        simp only [List.length_map]
        omega
theorem limb_byte (n i : Nat) : (limbs n).getD (i / 4) 0 / 2 ^ (8 * (i % 4)) % 256 = n / 256 ^ i % 256:=by
  have hr : i % 4 < 4:=Nat.mod_lt _ (by omega)
  have hpow : 256 ^ i = 4294967296 ^ (i / 4) * 2 ^ (8 * (i % 4)):=by
    have e1 : (256 : Nat) ^ i = 2 ^ (8 * i):=by rw [Nat.pow_mul]
    have e2 : 8 * i = 32 * (i / 4) + 8 * (i % 4):=by omega
    rw [e1,e2,Nat.pow_add,Nat.pow_mul]
  rw [hpow,← Nat.div_div_eq_div_mul]
  generalize i / 4 = s
  generalize hR : 8 * (i % 4) = r at *
  have hr2 : r ≤ 24:=by omega
  rcases Nat.lt_or_ge s (limbs n).length with h | h
  · have hd:=val_drop (limbs_low n) (s:=s) (by omega)
    rw [val_limbs,val_getD_drop h] at hd
    rw [← hd]
    have e : (4294967296 : Nat) = 2 ^ r * 2 ^ (32 - r):=by rw [← Nat.pow_add,show r + (32 - r) = 32 by omega]
    have e2 : 2 ^ (32 - r) = 256 * 2 ^ (24 - r):=by rw [show 32 - r = 8 + (24 - r) by omega,Nat.pow_add]
    have hp:=Nat.two_pow_pos r
    generalize (limbs n).getD s 0 = x
    generalize val ((limbs n).drop (s + 1)) = y
    rw [e,Nat.mul_assoc,Nat.add_mul_div_left _ _ hp,e2,Nat.mul_assoc,Nat.add_mul_mod_self_left]
  · have h1 : (limbs n).getD s 0 = 0:=getD_out' h
    have h2 : n / 4294967296 ^ s = 0:=Nat.div_eq_of_lt ((nb_lt (n:=n) (k:=s)).1 h)
    rw [h1,h2,Nat.zero_div]
def nby (n : Nat) : Nat:=(nbit n + 7) / 8
def natB (n : Nat) : List UInt8:=(List.range (nby n)).map fun j => UInt8.ofNat (n / 256 ^ (nby n - 1 - j) % 256)
theorem natB_len (n : Nat) : (natB n).length = nby n:=by unfold natB;rw [List.length_map,List.length_range]
def nbR (n k i : Nat) : Nat → D:=fun j => .int .u8 ((if k - 1 - j < i then n / 256 ^ (k - 1 - j) % 256 else 0 : Nat) : Int)
theorem nbR_set {n k i j : Nat} (hi : i < k) (hj : j < k) : (if j = k - 1 - i then .int .u8 ((n / 256 ^ i % 256 : Nat) : Int) else nbR n k i j) = nbR n k (i + 1) j:=by
  unfold nbR
  by_cases h : j = k - 1 - i
  · rw [if_pos h,if_pos (by omega),show k - 1 - j = i by omega]
  · rw [if_neg h]
    by_cases h2 : k - 1 - j < i
    · rw [if_pos h2,if_pos (by omega)]
    · rw [if_neg h2,if_neg (by omega)]
theorem nbR_fin (n : Nat) : ∀ i,i < nby n → nbR n (nby n) (nby n) i = bR (natB n) i:=by
  intro i hi
  unfold nbR bR natB
  rw [if_pos (by omega),List.getD_eq_getElem?_getD,List.getElem?_map,List.getElem?_range hi]
  simp only [Option.map_some,Option.getD_some]
  rw [u8_lit (Nat.mod_lt _ (by omega))]
theorem nby_le {n k : Nat} (h : nb n ≤ k) : nby n ≤ 4 * k:=by
  have:=nb_nbit.1 h
  unfold nby;omega
def vput (v : Nat) : List UInt8:=if v < 128 then [UInt8.ofNat v] else UInt8.ofNat (v % 128 + 128) :: vput (v / 128)
termination_by v
theorem vput_lt {v : Nat} (h : v < 128) : vput v = [UInt8.ofNat v]:=by rw [vput,if_pos h]
theorem vput_ge {v : Nat} (h : ¬ v < 128) : vput v = UInt8.ofNat (v % 128 + 128) :: vput (v / 128):=by rw [vput,if_neg h]
theorem bits_or128 (n : Nat) (h : n < 256) : bits .u8 .or (n : Int) 128 = ((n % 128 + 128 : Nat) : Int):=by
  have : ∀ n : Fin 256,bits .u8 .or ((n.val : Nat) : Int) 128 = ((n.val % 128 + 128 : Nat) : Int):=by decide +kernel
  exact this ⟨n,h⟩
def PutP (v : Nat) (x : Nat × List UInt8) : Prop:=x.2.length ≤ 9 ∧ x.1 < 2 ^ (64 - 7 * x.2.length) ∧ x.2 ++ vput x.1 = vput v
theorem PutP.next {v : Nat} {x : Nat × List UInt8} (h : PutP v x) (h1 : ¬ x.1 < 128) : PutP v (x.1 / 128,x.2 ++ [UInt8.ofNat (x.1 % 128 + 128)]):=by
  obtain ⟨a,l⟩:=x
  obtain ⟨h2,h3,h4⟩:=h
  simp only at h1 h2 h3 h4
  have hk : l.length ≤ 8 ∧ a / 128 < 2 ^ (64 - 7 * (l.length + 1)):=by
    generalize l.length = k at h2 h3
    rcases (show k = 0 ∨ k = 1 ∨ k = 2 ∨ k = 3 ∨ k = 4 ∨ k = 5 ∨ k = 6 ∨ k = 7 ∨ k = 8 ∨ k = 9 by omega) with rfl | rfl | rfl | rfl | rfl | rfl | rfl | rfl | rfl | rfl <;> omega
  refine ⟨?_, ?_, ?_⟩
  · simp only [List.length_append,List.length_singleton];omega
  · simp only [List.length_append,List.length_singleton];exact hk.2
  · rw [← h4,vput_ge h1];simp
theorem byte_app (l : List UInt8) (n : Nat) (hn : n < 256) {i : Nat} (hi : i < l.length + 1) : (if i < l.length then bR l i else [D.int .u8 (n : Int)].getD (i - l.length) .unk) = bR (l ++ [UInt8.ofNat n]) i:=by
  have:=bR_app l [UInt8.ofNat n] (i:=i) (by simpa using hi)
  rw [List.map_singleton,← u8_lit hn] at this
  exact this
theorem vint_Put (v : Nat) (hv : v < 18446744073709551616) : C E 98 [.int .u64 v] (.str (vput v)):=by
  refine CG_intro Tryz.func98 rfl (by kernel_rfl) rfl (by kernel_rfl) (by kernel_rfl) rfl ?_
  simp (disch:=first|exact dd|fail) only [go_sem,seval]
  refine AL.ofN 3 false 1 (bR []) (PutP v) (fun x => x.1) (fun x => [(0, .int .u64 x.1),(3, .sl 0 x.2.length 0 x.2.length)])
    (fun x => [(0, .row false x.2.length false 1 x.2.length (bR x.2))]) (v,[]) (by kernel_rfl) ⟨by simp,by simpa using hv,rfl⟩ ?_ ?_ ?_ ?_
  · simp (disch:=first|exact dd|fail) only [go_sem,seval]
  · simp (disch:=first|exact dd|fail) only [go_sem,seval]
    exact fun _ _ => trivial
  · intro x _;simp (disch:=first|exact dd|fail) only [go_sem,seval]
  rintro ⟨a,l⟩ hP
  have hn:=hP.next
  obtain ⟨h2,h3,h4⟩:=hP
  simp only at h2 h3 h4 hn
  have ha : a < 18446744073709551616:=Nat.lt_of_lt_of_le h3 (by
    rw [show (18446744073709551616 : Nat) = 2 ^ 64 from rfl]
    exact Nat.pow_le_pow_right (by omega) (by omega))
  by_cases h : a < 128
  · have e : IntKind.u8.wrap (a : Int) = a:=wrap_u8 (by omega)
    simp (disch:=first|exact dd|fail) only [go_sem,seval,e]
    refine ⟨.inl trivial, .inr trivial,by omega,by omega, ?_⟩
    rw [vput_lt h] at h4
    rw [bstr_of (l:=vput v) rfl (by rw [← h4];simp) fun i hi => (byte_app l a (by omega) hi).trans (by rw [h4])]
    simp (disch:=first|exact dd|fail) only [go_sem,seval]
  · have e : IntKind.u8.wrap (a : Int) = ((a % 256 : Nat) : Int):=by rw [wrap_u8'];omega
    have e2 : bits .u8 .or ((a % 256 : Nat) : Int) 128 = ((a % 128 + 128 : Nat) : Int):=by
      rw [bits_or128 _ (by omega)];congr 1;omega
    have e3 : (a : Int) / 128 = ((a / 128 : Nat) : Int):=by omega
    simp (disch:=first|exact dd|fail) only [go_sem,seval,e,e2,e3]
    refine ⟨.inl trivial, .inr trivial,by omega,by omega,(a / 128,l ++ [UInt8.ofNat (a % 128 + 128)]),hn h,by show a / 128 < a;omega, ?_, ?_⟩
    · simp (disch:=first|exact dd|fail) only [go_sem,seval]
    · simp (disch:=first|exact dd|fail) only [go_sem,seval]
      exact fun i hi => Le.of_eq (byte_app l _ (by omega) hi)
theorem r2_Put (v : Nat) (hv : v < 18446744073709551616) : C E 102 [.int .u64 v] (.str (vput v)):=by
  refine CG_intro Tryz.func102 rfl (by kernel_rfl) rfl (by kernel_rfl) (by kernel_rfl) rfl ?_
  simp (disch:=first|exact dd|fail) only [go_sem,seval]
  refine AL.ofN 3 false 1 (bR []) (PutP v) (fun x => x.1) (fun x => [(0, .int .u64 x.1),(3, .sl 0 x.2.length 0 x.2.length)])
    (fun x => [(0, .row false x.2.length false 1 x.2.length (bR x.2))]) (v,[]) (by kernel_rfl) ⟨by simp,by simpa using hv,rfl⟩ ?_ ?_ ?_ ?_
  · simp (disch:=first|exact dd|fail) only [go_sem,seval]
  · simp (disch:=first|exact dd|fail) only [go_sem,seval]
    exact fun _ _ => trivial
  · intro x _;simp (disch:=first|exact dd|fail) only [go_sem,seval]
  rintro ⟨a,l⟩ hP
  have hn:=hP.next
  obtain ⟨h2,h3,h4⟩:=hP
  simp only at h2 h3 h4 hn
  have ha : a < 18446744073709551616:=Nat.lt_of_lt_of_le h3 (by
    rw [show (18446744073709551616 : Nat) = 2 ^ 64 from rfl]
    exact Nat.pow_le_pow_right (by omega) (by omega))
  by_cases h : a < 128
  · have e : IntKind.u8.wrap (a : Int) = a:=wrap_u8 (by omega)
    simp (disch:=first|exact dd|fail) only [go_sem,seval,e]
    refine ⟨.inl trivial, .inr trivial,by omega,by omega, ?_⟩
    rw [vput_lt h] at h4
    rw [bstr_of (l:=vput v) rfl (by rw [← h4];simp) fun i hi => (byte_app l a (by omega) hi).trans (by rw [h4])]
    simp (disch:=first|exact dd|fail) only [go_sem,seval]
  · have e1:=bits_and127 a ha
    have e : bits .u64 .or ((a % 128 : Nat) : Int) 128 = ((a % 128 + 128 : Nat) : Int):=by
      have h1:=bits_or (a % 128) 128 (by omega) (by omega)
      have h2:=or_add 7 1 (a % 128) (by omega)
      rw [h2] at h1
      exact h1
    have e2 : IntKind.u8.wrap ((a % 128 + 128 : Nat) : Int) = ((a % 128 + 128 : Nat) : Int):=wrap_u8 (by omega)
    have e3 : (a : Int) / 128 = ((a / 128 : Nat) : Int):=by omega
    simp (disch:=first|exact dd|fail) only [go_sem,seval,e1,e,e2,e3]
    refine ⟨.inl trivial, .inr trivial,by omega,by omega,(a / 128,l ++ [UInt8.ofNat (a % 128 + 128)]),hn h,by show a / 128 < a;omega, ?_, ?_⟩
    · simp (disch:=first|exact dd|fail) only [go_sem,seval]
    · simp (disch:=first|exact dd|fail) only [go_sem,seval]
      exact fun i hi => Le.of_eq (byte_app l _ (by omega) hi)
theorem vput_len (v : Nat) (hv : v < 18446744073709551616) : (vput v).length ≤ 10:=by
  have step : ∀ n v,v < 128 ^ (n + 1) → (vput v).length ≤ n + 1:=fun n => by
    induction n with
    | zero => intro v h;rw [vput_lt (by simpa using h)];simp
    | succ n ih =>
      intro v h
      by_cases h1 : v < 128
      · rw [vput_lt h1];simp
      · rw [vput_ge h1,List.length_cons]
        have:=ih (v / 128) (by rw [Nat.div_lt_iff_lt_mul (by omega),← Nat.pow_succ];exact h)
        omega
  exact step 9 v (Nat.lt_trans hv (by decide))
def vgo (b : List UInt8) (a : Nat) (i v : Nat) : Nat → Nat × Nat × Nat
  | 0 => (0,0,6)
  | f + 1 => if b.length ≤ a + i then (0,0,4) else
    if i = 9 ∧ 1 < (b.getD (a + i) 0).toNat ∨ 0 < i ∧ (b.getD (a + i) 0).toNat = 0 then (0,0,6) else
    if (b.getD (a + i) 0).toNat < 128 then (v + 2 ^ (7 * i) * ((b.getD (a + i) 0).toNat % 128),a + i + 1,0) else
    vgo b a (i + 1) (v + 2 ^ (7 * i) * ((b.getD (a + i) 0).toNat % 128)) f
def vget (b : List UInt8) (a : Int) : Nat × Nat × Nat:=if a < 0 ∨ (b.length : Int) < a then (0,0,1) else vgo b a.toNat 0 0 10
def vgD (x : Nat × Nat × Nat) : D:=.tup [.int .u64 x.1, .int .i64 x.2.1, .int .i64 x.2.2]
theorem vgo_next {v i : Nat} (c : Nat) (hi : i ≤ 9) (hc : c < 128) (h9 : i = 9 → c ≤ 1) (hv : v < 2 ^ (7 * i)) : v + 2 ^ (7 * i) * c < 18446744073709551616 ∧ (i < 9 → v + 2 ^ (7 * i) * c < 2 ^ (7 * (i + 1))) ∧ 2 ^ (7 * i) * c < 18446744073709551616:=by
  have h9' : i < 9 ∨ c ≤ 1:=by
    by_cases e : i = 9
    · exact .inr (h9 e)
    · exact .inl (by omega)
  clear h9
  rcases (show i = 0 ∨ i = 1 ∨ i = 2 ∨ i = 3 ∨ i = 4 ∨ i = 5 ∨ i = 6 ∨ i = 7 ∨ i = 8 ∨ i = 9 by omega) with rfl | rfl | rfl | rfl | rfl | rfl | rfl | rfl | rfl | rfl <;> simp only [Nat.reduceMul,Nat.reducePow,Nat.reduceAdd] at * <;> omega
theorem vgo_or {v i : Nat} (c : Nat) (hi : i ≤ 9) (hc : c < 128) (h9 : i = 9 → c ≤ 1) (hv : v < 2 ^ (7 * i)) : bits .u64 .or (v : Int) (IntKind.u64.wrap ((c : Int) * ((2 ^ (7 * i) : Nat) : Int))) = ((v + 2 ^ (7 * i) * c : Nat) : Int):=by
  obtain ⟨h1,_,h2⟩:=vgo_next c hi hc h9 hv
  rw [show (c : Int) * ((2 ^ (7 * i) : Nat) : Int) = ((2 ^ (7 * i) * c : Nat) : Int) by rw [Int.natCast_mul,Int.mul_comm]]
  rw [← or_add _ c v hv]
  generalize 2 ^ (7 * i) * c = m at *
  rw [wrap_u64 ⟨by omega,by omega⟩,bits_or _ _ (by omega) h2]
theorem vint_Get (b : List UInt8) (a : Int) (ha : -9223372036854775808 ≤ a ∧ a ≤ 9223372036854775807) (hb : b.length < 1099511627776) : C E 111 [.str b, .int .i64 a] (vgD (vget b a)):=by
  refine CG_intro Tryz.func111 rfl (by kernel_rfl) rfl (by kernel_rfl) (by kernel_rfl) rfl ?_
  simp (disch:=first|exact dd|fail) only [go_sem,seval]
  by_cases h1 : a < 0
  · simp (disch:=first|exact dd|fail) only [go_sem,seval]
    rw [vget,if_pos (.inl h1)]
    exact LeV.refl _
  by_cases h2 : (b.length : Int) < a
  · simp (disch:=first|exact dd|fail) only [go_sem,seval]
    rw [vget,if_pos (.inr h2)]
    exact LeV.refl _
  simp (disch:=first|exact dd|fail) only [go_sem,seval]
  obtain ⟨n,rfl⟩:=Int.eq_ofNat_of_zero_le (show 0 ≤ a by omega)
  have hr : vget b (n : Int) = vgo b n 0 0 10:=by rw [vget,if_neg (by omega),Int.toNat_natCast]
  generalize vget b (n : Int) = res at *
  refine AL.of (fun x : Nat × Nat => x.1 ≤ 9 ∧ x.2 < 2 ^ (7 * x.1) ∧ res = vgo b n x.1 x.2 (10 - x.1)) (fun x => 10 - x.1) (fun x => [(0, .str b),(1, .int .i64 n),(7, .int .u64 x.2),(18, .int .i64 x.1)])
    (fun _ => []) (0,0) ⟨by omega,by decide,hr⟩ ?_ ?_ ?_ ?_
  · simp (disch:=first|exact dd|fail) only [go_sem,seval]
  · trivial
  · intro x _;simp (disch:=first|exact dd|fail) only [go_sem,seval]
  rintro ⟨i,v⟩ ⟨hi,hv,hr⟩
  simp only at hi hv hr
  rw [show 10 - i = (9 - i) + 1 by omega,vgo] at hr
  by_cases h3 : b.length ≤ n + i
  · rw [if_pos h3] at hr
    subst hr
    simp (disch:=first|exact dd|fail) only [go_sem,seval]
    exact LeV.refl _
  rw [if_neg h3] at hr
  have hin : ((n : Int) + (i : Int)).toNat = n + i:=by omega
  have hc:=(b.getD (n + i) 0).toNat_lt
  generalize hcc : (b.getD (n + i) 0).toNat = c at *
  have e7 : (((7 : Int) * (i : Int)).toNat) = 7 * i:=by omega
  have em : min (7 * i) 64 = 7 * i:=by omega
  have ew : IntKind.u64.wrap (((c % 128 : Nat) : Int)) = ((c % 128 : Nat) : Int):=wrap_u64 (by omega)
  have et : ((c : Int).tmod 128) = ((c % 128 : Nat) : Int):=by
    rw [Int.tmod_eq_emod_of_nonneg (by omega)];omega
  by_cases hbad : i = 9 ∧ 1 < c ∨ 0 < i ∧ c = 0
  · rw [if_pos hbad] at hr
    subst hr
    by_cases h9 : i = 9
    · by_cases h1 : 1 < c
      · simp (disch:=first|exact dd|fail) only [go_sem,seval,hin,hcc,e7,em,et,ew]
        exact LeV.refl _
      · simp (disch:=first|exact dd|fail) only [go_sem,seval,hin,hcc,e7,em,et,ew]
        exact LeV.refl _
    · simp (disch:=first|exact dd|fail) only [go_sem,seval,hin,hcc,e7,em,et,ew]
      exact LeV.refl _
  · rw [if_neg hbad] at hr
    have ho:=vgo_or (v:=v) (c % 128) hi (by omega) (by omega) hv
    obtain ⟨_,hv2,_⟩:=vgo_next (v:=v) (c % 128) hi (by omega) (by omega) hv
    generalize v + 2 ^ (7 * i) * (c % 128) = v' at *
    by_cases hlt : c < 128
    · rw [if_pos hlt] at hr
      subst hr
      by_cases h9 : i = 9
      · by_cases h0 : c = 0
        · omega
        · simp (disch:=first|exact dd|fail) only [go_sem,seval,hin,hcc,e7,em,et,ew,ho]
          exact LeV.refl _
      · by_cases h0 : c = 0
        · simp (disch:=first|exact dd|fail) only [go_sem,seval,hin,hcc,e7,em,et,ew,ho]
          exact LeV.refl _
        · simp (disch:=first|exact dd|fail) only [go_sem,seval,hin,hcc,e7,em,et,ew,ho]
          exact LeV.refl _
    · rw [if_neg hlt] at hr
      simp (disch:=first|exact dd|fail) only [go_sem,seval,hin,hcc,e7,em,et,ew,ho]
      refine ⟨(i + 1,v'),⟨by show i + 1 ≤ 9;omega,hv2 (by omega),by rw [hr,show 9 - i = 10 - (i + 1) by omega]⟩,by show 10 - (i + 1) < 10 - i;omega, ?_, ?_⟩
      · simp (disch:=first|exact dd|fail) only [go_sem,seval]
        exact LeV.of_eq (by rw [Int.natCast_succ])
      · trivial
theorem cut_at {l : List Nat} : ∀ k,k ≤ l.length → val (l.take k) = val l → ∃ j,j ≤ l.length ∧ val (l.take j) = val l ∧ ∀ i,i + 1 = j → l.getD i 0 ≠ 0
  | 0,h,e => ⟨0,h,e,fun i hi => by omega⟩
  | k + 1,h,e => by
    by_cases h0 : l.getD k 0 = 0
    · exact cut_at k (by omega) (by rw [← val_take (by omega) h0];exact e)
    · exact ⟨k + 1,h,e,fun i hi => by
        obtain rfl : i = k:=by omega
        exact h0⟩
theorem limbs_pre {l : List Nat} (hl : lows l) : l.take (nb (val l)) = limbs (val l) ∧ nb (val l) ≤ l.length:=by
  obtain ⟨j,h1,h2,h3⟩:=cut_at l.length (Nat.le_refl _) (by rw [List.take_length])
  have e:=cut_fin hl h1 h2 h3
  have e2 : nb (val l) = j:=by rw [nb,e,List.length_take];omega
  rw [e2,e];exact ⟨rfl,h1⟩
def RvP (s : List UInt8) (x : Nat × List UInt8) : Prop:=x.1 ≤ s.length / 2 ∧ x.2.length = s.length ∧ ∀ j,j < s.length → x.2.getD j 0 = if j < x.1 ∨ s.length - 1 - x.1 < j then s.getD (s.length - 1 - j) 0 else s.getD j 0
theorem RvP.fin {s : List UInt8} {w : List UInt8} (h : RvP s (s.length / 2,w)) : w = s.reverse:=by
  obtain ⟨_,h2,h3⟩:=h
  simp only at h2 h3
  refine List.ext_getElem (by rw [List.length_reverse,h2]) fun j hj1 hj2 => ?_
  have:=h3 j (by omega)
  rw [List.getD_eq_getElem?_getD,List.getElem?_eq_getElem hj1] at this
  simp only [Option.getD_some] at this
  rw [this,List.getElem_reverse]
  split
  · rw [List.getD_eq_getElem?_getD,List.getElem?_eq_getElem (by omega)];rfl
  · have e : s.length - 1 - j = j:=by omega
    rw [List.getD_eq_getElem?_getD,List.getElem?_eq_getElem (by omega)]
    simp only [Option.getD_some,e]
theorem RvP.next {s w : List UInt8} {i : Nat} (h : RvP s (i,w)) (hi : i < s.length / 2) : RvP s (i + 1,(w.set i (w.getD (s.length - 1 - i) 0)).set (s.length - 1 - i) (w.getD i 0)):=by
  obtain ⟨_,h2,h3⟩:=h
  simp only at h2 h3
  have hg : ∀ (v : List UInt8) (a b : Nat) (c : UInt8),a < v.length → (v.set a c).getD b 0 = if b = a then c else v.getD b 0:=fun v a b c ha => by
    by_cases e : b = a
    · rw [if_pos e,e,List.getD_eq_getElem?_getD,List.getElem?_set_self ha];rfl
    · rw [if_neg e,List.getD_eq_getElem?_getD,List.getElem?_set_ne (fun h => e h.symm),← List.getD_eq_getElem?_getD]
  refine ⟨by show i + 1 ≤ _;omega,by simp only [List.length_set];exact h2,fun j hj => ?_⟩
  simp only
  rw [hg _ _ _ _ (by rw [List.length_set];omega),hg _ _ _ _ (by omega),h3 i (by omega),h3 (s.length - 1 - i) (by omega),h3 j hj]
  rw [if_neg (show ¬ (i < i ∨ s.length - 1 - i < i) by omega),if_neg (show ¬ (s.length - 1 - i < i ∨ s.length - 1 - i < s.length - 1 - i) by omega)]
  by_cases h1 : j = s.length - 1 - i
  · subst h1
    rw [if_pos rfl,if_pos (by omega),show s.length - 1 - (s.length - 1 - i) = i by omega]
  · rw [if_neg h1]
    by_cases h4 : j = i
    · subst h4
      rw [if_pos rfl,if_pos (by omega)]
    · rw [if_neg h4]
      by_cases h5 : j < i ∨ s.length - 1 - i < j
      · rw [if_pos h5,if_pos (by omega)]
      · rw [if_neg h5,if_neg (by omega)]
theorem rdec_len {n k : Nat} (h : n < 10 ^ k) : (rdec n).length ≤ k:=by
  obtain ⟨z,hz⟩:=lowd_rdec k n h
  have:=congrArg List.length hz
  rw [lowd_len,List.length_append] at this
  omega
theorem rdec_nb (n : Nat) : (rdec n).length ≤ 10 * nb n:=by
  refine rdec_len (Nat.lt_of_lt_of_le ((nb_lt (n:=n) (k:=nb n)).1 (Nat.le_refl _)) ?_)
  rw [Nat.pow_mul]
  exact Nat.pow_le_pow_left (by decide) _
theorem bR_set {w : List UInt8} {i : Nat} {c : UInt8} (hi : i < w.length) (j : Nat) : (if j = i then D.int .u8 (c.toNat : Int) else bR w j) = bR (w.set i c) j:=by
  unfold bR
  by_cases h : j = i
  · subst h
    rw [if_pos rfl,List.getD_eq_getElem?_getD,List.getElem?_set_self hi];rfl
  · rw [if_neg h,List.getD_eq_getElem?_getD,List.getD_eq_getElem?_getD,List.getElem?_set_ne (fun e => h e.symm)]
theorem backward_ownN (n N v : Nat) (hN : n ≤ N) (f : Nat → D) : CG E 178 [.sl 0 v 0 n] [(0, .row false v false 1 N f)] (.fn 195 [.ad 1 0]) [(0, .row false v false 1 N f),(1, .var false 1 (.sl 0 v 0 n))]:=by
  refine CG_intro Tryz.func178 rfl (by kernel_rfl) rfl (by kernel_rfl) (by kernel_rfl) rfl ?_
  simp (disch:=first|exact dd|fail) only [go_sem,seval]
  try exact fun _ _ => trivial
def shRowN (q : Nat) (l t : List Nat) (k : Nat) : List Nat:=shRow q l k ++ t
theorem shRowN_len (q : Nat) (l t : List Nat) (k : Nat) : (shRowN q l t k).length = l.length + t.length:=by rw [shRowN,List.length_append,shRow_len]
theorem shRowN_at (q : Nat) {l t : List Nat} {k : Nat} (hk : k < l.length) : (shRowN q l t (k + 1)).getD k 0 = l.getD k 0:=by
  rw [← shRow_at q hk,shRowN,List.getD_eq_getElem?_getD,List.getElem?_append_left (by rw [shRow_len];exact hk),← List.getD_eq_getElem?_getD]
theorem shRowN_step (q : Nat) {l t : List Nat} {k : Nat} (hk : k < l.length) : shRowN q l t k = (shRowN q l t (k + 1)).set k (((sdiv q (l.drop (k + 1))).2 * 4294967296 + l.getD k 0) / q):=by
  rw [shRowN,shRowN,List.set_append_left _ _ (by rw [shRow_len];exact hk),← shRow_step q hk]
theorem nat_shortN {l t : List Nat} {N : Nat} (hN : N = l.length + t.length) (hl : lows l) (hn : N < 1073741824) {q : Nat} (hq0 : 0 < q) (hq : q < 4294967296) (v : Nat) : CG E 149 [.sl 0 v 0 l.length, .int .u32 q] [(0, .row false v false 1 N (lR (l ++ t)))]
    (.int .u32 (sdiv q l).2) [(0, .row false v false 1 N (lR ((sdiv q l).1 ++ t)))]:=by
  refine CG_intro Tryz.func149 rfl (by kernel_rfl) rfl (by kernel_rfl) (by kernel_rfl) rfl ?_
  simp (disch:=first|exact dd|fail) only [go_sem,seval]
  refine callG [0] (backward_ownN l.length N v (by omega) (lR (l ++ t))) rfl (by simp (disch:=first|exact dd|fail) only [go_sem,seval]) ?_ ?_ ?_
  · simp (disch:=first|exact dd|fail) only [go_sem,seval]
  · simp (disch:=first|exact dd|fail) only [go_sem,seval]
  simp (disch:=first|exact dd|fail) only [go_sem,seval]
  refine AB.of 195 5 (fun k : Nat => k ≤ l.length) (fun k => k) (fun _ => [(2, .ad 1 0),(3, .ad 2 0),(5, .ad 3 0),(9, .fn 195 [.ad 5 0])])
    (fun k => [(5, .var false 1 (.sl 0 v 0 l.length)),(3, .var false 1 (.int .u64 (((sdiv q (l.drop k)).2 : Nat) : Int))),(2, .var false 1 (.int .u32 q)),(1, .var false 1 (.sl 0 v 0 l.length)),(0, .row false v false 1 N (lR (shRowN q l t k)))]) l.length bw_u32 (Nat.le_refl _) ?_ ?_ ?_ (y:=.sl 0 v 0 l.length) ?_ ?_ (by omega) ?_ ?_ ?_
  · simp (disch:=first|exact dd|fail) only [go_sem,seval]
  · have e0 : (sdiv q (l.drop l.length)).2 = 0:=by rw [List.drop_length];rfl
    have e1 : shRowN q l t l.length = l ++ t:=by rw [shRowN,shRow,List.drop_length,List.take_length];rw [show (sdiv q ([] : List Nat)).1 = [] from rfl,List.append_nil]
    rw [e0,e1]
    simp (disch:=first|exact dd|fail) only [go_sem,seval]
    try exact fun _ _ => trivial
  · simp (disch:=first|exact dd|fail) only [go_sem,seval]
  · simp (disch:=first|exact dd|fail) only [go_sem,seval]
  · simp (disch:=first|exact dd|fail) only [go_sem,seval]
  · intro x' _;simp (disch:=first|exact dd|fail) only [go_sem,seval]
  · rintro x' h rfl
    have e1 : shRowN q l t 0 = (sdiv q l).1 ++ t:=by rw [shRowN,shRow,List.drop_zero,List.take_zero,List.nil_append]
    rw [List.drop_zero,e1]
    have r1:=sdiv_rem hq0 l
    simp (disch:=first|exact dd|fail) only [go_sem,seval]
    try exact fun _ _ => trivial
  · rintro x' k hk1 hk rfl
    have g1:=hl.getD k
    have r1:=sdiv_rem hq0 (l.drop (k + 1))
    have hat:=shRowN_at q (t:=t) hk
    have hst:=shRowN_step q (t:=t) hk
    have hrow:=fun (d j : Nat) => lR_set' (w:=shRowN q l t (k + 1)) (i:=k) (d:=d) (j:=j) (by rw [shRowN_len];omega)
    have hs2 : (sdiv q (l.drop k)).2 = ((sdiv q (l.drop (k + 1))).2 * 4294967296 + l.getD k 0) % q:=by rw [lim_drop hk];rfl
    have eo:=or_up (sdiv q (l.drop (k + 1))).2 (l.getD k 0) (by omega) g1
    have hd:=sdiv_low hq0 (l:=l.drop k) (fun y hy => hl y (List.mem_of_mem_drop hy)) (((sdiv q (l.drop (k + 1))).2 * 4294967296 + l.getD k 0) / q) (by rw [lim_drop hk];exact List.mem_cons_self)
    have hm : ((sdiv q (l.drop (k + 1))).2 * 4294967296 + l.getD k 0) % q < q:=Nat.mod_lt _ hq0
    refine ⟨.sl 0 v 0 l.length, .int .u32 ((l.getD k 0 : Nat) : Int),rfl, ?_, ?_⟩
    · simp [elt]
      show (if v = v ∧ 1 = 1 ∧ k < l.length then some (lR (shRowN q l t (k + 1)) k) else none) = _
      rw [if_pos ⟨rfl,rfl,hk⟩,lR,hat,List.getD_eq_getElem?_getD]
    generalize hR : (sdiv q (l.drop (k + 1))).2 = R at *
    generalize hX : l.getD k 0 = X at *
    have htd : (((R * 4294967296 + X : Nat) : Int)).tdiv (q : Int) = (((R * 4294967296 + X) / q : Nat) : Int):=(Int.ofNat_tdiv _ _).symm
    have htm : (((R * 4294967296 + X : Nat) : Int)).tmod (q : Int) = (((R * 4294967296 + X) % q : Nat) : Int):=(Int.ofNat_tmod _ _).symm
    generalize (R * 4294967296 + X) / q = Dv at *
    generalize (R * 4294967296 + X) % q = Mv at *
    simp (disch:=first|exact dd|fail) only [go_sem,seval,eo,htd,htm,hR]
    refine BGo.of k (by simp (disch:=first|exact dd|fail) only [go_sem,seval]) (by omega) rfl (by simp [mx]) ?_ ?_
    · simp (disch:=first|exact dd|fail) only [go_sem,seval]
    · simp (disch:=first|exact dd|fail) only [go_sem,seval,hs2,hst,hrow]
      try exact fun _ _ => trivial
theorem nat_cutN {l : List Nat} (hl : lows l) {N : Nat} (hn : l.length ≤ N) (hN : N < 4611686018427387904) (ver : Nat) {f : Nat → D} (hf : ∀ i,i < l.length → f i = .int .u32 ((l.getD i 0 : Nat) : Int)) :
    CG E 150 [.sl 0 ver 0 l.length] [(0, .row false ver false 1 N f)] (.agg [.sl 0 ver 0 (nb (val l))]) [(0, .row false ver false 1 N f)]:=by
  refine CG_intro Tryz.func150 rfl (by kernel_rfl) rfl (by kernel_rfl) (by kernel_rfl) rfl ?_
  simp (disch:=first|exact dd|fail) only [go_sem,seval]
  refine AL.of (fun k : Nat => k ≤ l.length ∧ val (l.take k) = val l) (fun k => k) (fun k => [(0, .sl 0 ver 0 k),(2, .ad 1 0)]) (fun _ => [(0, .row false ver false 1 N f),(1, .var true 1 (.agg [.nils]))]) l.length ⟨by omega,by simp⟩ ?_ ?_ ?_ ?_
  · simp (disch:=first|exact dd|fail) only [go_sem,seval]
  · simp (disch:=first|exact dd|fail) only [go_sem,seval]
    try exact fun _ _ => trivial
  · intro x _;simp (disch:=first|exact dd|fail) only [go_sem,seval]
  rintro k ⟨h1,h2⟩
  have fin : (∀ j,j + 1 = k → l.getD j 0 ≠ 0) → nb (val l) = k:=fun h3 => by
    have e:=cut_fin hl h1 h2 h3
    rw [nb,e,List.length_take];omega
  by_cases hk : 0 < k
  · obtain ⟨j,rfl⟩ : ∃ j,k = j + 1:=⟨k - 1,by omega⟩
    have ej : (((j + 1 : Nat) : Int) - 1).toNat = j:=by omega
    have hfj:=hf j (by omega)
    by_cases h0 : l.getD j 0 = 0
    · simp (disch:=first|exact dd|fail) only [go_sem,seval,ej,hfj]
      refine ⟨j,⟨by omega,by rw [← val_take (by omega) h0];exact h2⟩,Nat.lt_succ_self j, ?_, ?_⟩
      · simp (disch:=first|exact dd|fail) only [go_sem,seval]
      · simp (disch:=first|exact dd|fail) only [go_sem,seval]
        try exact fun _ _ => trivial
    · have hq:=fin fun j' hj' => by
        obtain rfl : j' = j:=by omega
        exact h0
      rw [hq]
      simp (disch:=first|exact dd|fail) only [go_sem,seval,ej,hfj]
      try exact fun _ _ => trivial
  · obtain rfl : k = 0:=by omega
    have hq:=fin fun j hj => by omega
    rw [hq]
    simp (disch:=first|exact dd|fail) only [go_sem,seval]
    try exact fun _ _ => trivial
theorem getD_app {w z : List UInt8} {i : Nat} (h : i < w.length) : (w ++ z).getD i 0 = w.getD i 0:=by
  rw [List.getD_eq_getElem?_getD,List.getElem?_append_left h,← List.getD_eq_getElem?_getD]
theorem slices_Reverse (s z : List UInt8) (v N : Nat) (hN : N = s.length + z.length) (hs : N < 4611686018427387904) :
    CG E 151 [.sl 0 v 0 s.length] [(0, .row false v false 1 N (bR (s ++ z)))] (.tup []) [(0, .row false v false 1 N (bR (s.reverse ++ z)))]:=by
  refine CG_intro Tryz.func151 rfl (by kernel_rfl) rfl (by kernel_rfl) (by kernel_rfl) rfl ?_
  simp (disch:=first|exact dd|fail) only [go_sem,seval]
  refine AL.of (RvP s) (fun x => s.length / 2 - x.1) (fun x => [(0, .sl 0 v 0 s.length),(2, .int .i64 x.1),(3, .int .i64 ((s.length : Int) - 1 - x.1))]) (fun x => [(0, .row false v false 1 N (bR (x.2 ++ z)))]) (0,s)
    ⟨Nat.zero_le _,rfl,fun j hj => by rw [if_neg (by simp only;omega)]⟩ ?_ ?_ ?_ ?_
  · simp (disch:=first|exact dd|fail) only [go_sem,seval]
    try exact LeV_int (by omega)
  · simp (disch:=first|exact dd|fail) only [go_sem,seval]
    try exact fun _ _ => trivial
  · intro x _;simp (disch:=first|exact dd|fail) only [go_sem,seval]
  rintro ⟨i,w⟩ hR
  have hi : i ≤ s.length / 2:=hR.1
  have hwl : w.length = s.length:=hR.2.1
  by_cases hil : i = s.length / 2
  · subst hil
    rw [← hR.fin]
    clear hR
    have hd : decide (((s.length / 2 : Nat) : Int) < (s.length : Int) - 1 - ((s.length / 2 : Nat) : Int)) = false:=decide_eq_false (by omega)
    simp (disch:=first|exact dd|fail) only [go_sem,seval,hd]
    try exact fun _ _ => trivial
  · have hil' : i < s.length / 2:=by omega
    have hnx:=hR.next hil'
    have e1 : ((s.length : Int) - 1 - (i : Int)).toNat = s.length - 1 - i:=by omega
    have e2 : ((i : Nat) : Int).toNat = i:=by omega
    have hd : decide ((i : Int) < (s.length : Int) - 1 - (i : Int)) = true:=decide_eq_true (by omega)
    have b1 : ∀ c j,(if j = i then D.int .u8 ((c : UInt8).toNat : Int) else bR (w ++ z) j) = bR ((w ++ z).set i c) j:=fun c j => bR_set (by rw [List.length_append];omega) j
    have g1 : (w ++ z).getD (s.length - 1 - i) 0 = w.getD (s.length - 1 - i) 0:=getD_app (by omega)
    have g2 : (w ++ z).getD i 0 = w.getD i 0:=getD_app (by omega)
    have h1 : (w ++ z).set i (w.getD (s.length - 1 - i) 0) = w.set i (w.getD (s.length - 1 - i) 0) ++ z:=List.set_append_left _ _ (by omega)
    have h2 : (w.set i (w.getD (s.length - 1 - i) 0) ++ z).set (s.length - 1 - i) (w.getD i 0) = (w.set i (w.getD (s.length - 1 - i) 0)).set (s.length - 1 - i) (w.getD i 0) ++ z:=List.set_append_left _ _ (by rw [List.length_set];omega)
    clear hR
    simp (disch:=first|exact dd|fail) only [go_sem,seval,e1,e2,hd]
    refine ⟨rfl,rfl,rfl,rfl, ?_⟩
    refine ⟨_,hnx,by show s.length / 2 - (i + 1) < s.length / 2 - i;omega, ?_, ?_⟩
    · simp (disch:=first|exact dd|fail) only [go_sem,seval]
      try exact ⟨LeV_int (by omega),LeV_int (by omega)⟩
    · simp (disch:=first|exact dd|fail) only [go_sem,seval]
      intro j hj
      rw [← h2,← bR_set (w:=w.set i (w.getD (s.length - 1 - i) 0) ++ z) (i:=s.length - 1 - i) (c:=w.getD i 0) (by rw [List.length_append,List.length_set];omega) j,← h1,← b1,← g1,← g2]
      exact Le.refl _
def TxP (n N : Nat) (s : Nat × List Nat × Nat) : Prop:=nb s.1 + s.2.1.length = N ∧ s.1 = n / 10 ^ s.2.2 ∧ s.2.2 ≤ 32 * nb n + 9
theorem lowd_snoc (j n : Nat) : lowd (j + 1) n = lowd j n ++ [dg (n / 10 ^ j % 10)]:=by
  rw [lowd_add j 1];rfl
theorem TxP.dig {n N m j : Nat} {t : List Nat} (h : TxP n N (m,t,j)) {i : Nat} (hi : i < 9) : m % 1000000000 / 10 ^ i % 10 = n / 10 ^ (j + i) % 10:=by
  have h2 : m = n / 10 ^ j:=h.2.1
  rw [Nat.pow_add,← Nat.div_div_eq_div_mul,← h2]
  rcases i with _ | _ | _ | _ | _ | _ | _ | _ | _ | i
  all_goals first
    | omega
    | (simp only [Nat.reduceAdd,Nat.reducePow,Nat.zero_add];omega)
theorem TxP.next {n N m j : Nat} {t : List Nat} (h : TxP n N (m,t,j)) (h0 : m ≠ 0) :
    TxP n N (m / 1000000000,(sdiv 1000000000 (limbs m)).1.drop (nb (m / 1000000000)) ++ t,j + 9) ∧ (sdiv 1000000000 (limbs m)).2 = m % 1000000000 ∧ (sdiv 1000000000 (limbs m)).1 ++ t = limbs (m / 1000000000) ++ ((sdiv 1000000000 (limbs m)).1.drop (nb (m / 1000000000)) ++ t) ∧ val (sdiv 1000000000 (limbs m)).1 = m / 1000000000 ∧ lows (sdiv 1000000000 (limbs m)).1 ∧ m / 1000000000 < m ∧ (sdiv 1000000000 (limbs m)).1.length = nb m:=by
  obtain ⟨h1,h2,h3⟩:=h
  simp only at h1 h2 h3
  have hj : j < 32 * nb n:=by
    have a1 : 10 ^ j ≤ n:=by
      refine Nat.le_of_not_lt fun hlt => h0 ?_
      rw [h2,Nat.div_eq_of_lt hlt]
    have a2:=(nb_lt (n:=n) (k:=nb n)).1 (Nat.le_refl _)
    have a3 : 2 ^ j ≤ 10 ^ j:=Nat.pow_le_pow_left (by omega) _
    have a4 : (4294967296 : Nat) ^ nb n = 2 ^ (32 * nb n):=by rw [Nat.pow_mul]
    rw [a4] at a2
    exact (Nat.pow_lt_pow_iff_right (a:=2) (by omega)).1 (Nat.lt_of_le_of_lt (Nat.le_trans a3 a1) a2)
  have hv:=sdiv_val (q:=1000000000) (by omega) (limbs m)
  have hr:=sdiv_rem (q:=1000000000) (by omega) (limbs m)
  have hl:=sdiv_low (q:=1000000000) (by omega) (limbs_low m)
  have hn:=sdiv_len 1000000000 (limbs m)
  rw [val_limbs] at hv
  have e1 : val (sdiv 1000000000 (limbs m)).1 = m / 1000000000:=by omega
  have e2 : (sdiv 1000000000 (limbs m)).2 = m % 1000000000:=by omega
  obtain ⟨p1,p2⟩:=limbs_pre hl
  rw [e1] at p1 p2
  have hnb : (limbs m).length = nb m:=rfl
  refine ⟨⟨?_, ?_,by show j + 9 ≤ _;omega⟩,e2, ?_,e1,hl,by omega,by omega⟩
  · simp only [List.length_append,List.length_drop]
    omega
  · simp only
    rw [Nat.pow_add,← Nat.div_div_eq_div_mul,← h2]
  · rw [← List.append_assoc]
    congr 1
    rw [← p1,List.take_append_drop]
theorem clone_u32_nil : C E 148 [u32s []] (u32s []):=by
  refine CG_intro Tryz.func148 rfl (by kernel_rfl) rfl (by kernel_rfl) (by kernel_rfl) rfl ?_
  simp (disch:=first|exact dd|fail) only [go_sem,seval,u32s]
  intro b hb
  cases b with
  | false =>
    rw [KE_eq]
    simp (disch:=first|exact dd|fail) only [go_sem,seval]
    exact ⟨.inl trivial, .inr trivial,LeV.ro rfl fun i hi => absurd hi (by omega)⟩
  | true =>
    rw [KE_eq]
    simp (disch:=first|exact dd|fail) only [go_sem,seval]
    exact LeV.nils
theorem u8_ne48 {c : UInt8} (h : c ≠ 48) : ((c.toNat : Int) == 48) = false:=
  beq_eq_false_iff_ne.2 fun e => h (UInt8.toNat_inj.1 (show c.toNat = 48 by omega))
theorem nat_Text {n : Nat} (hn : nb n < 60000000) : C E 108 [natD n] (.str (dec n)):=by
  refine CG_intro Tryz.func108 rfl (by kernel_rfl) rfl (by kernel_rfl) (by kernel_rfl) rfl ?_
  have hlb : (limbs n).length = nb n:=rfl
  by_cases h0 : n = 0
  · subst h0
    have e : dec 0 = [48]:=rfl
    rw [e,natD_u32s,limbs_zero]
    simp (disch:=first|exact dd|fail) only [go_sem,seval]
    refine cA clone_u32_nil ?_
    simp (disch:=first|exact dd|fail) only [go_sem,seval,u32s]
    refine AL.step ?_
    simp (disch:=first|exact dd|fail) only [go_sem,seval,u32s]
    refine AL.step ?_
    simp (disch:=first|exact dd|fail) only [go_sem,seval,u32s]
    try exact LeV.refl _
  · have hp : 0 < (limbs n).length:=limbs_ne h0
    have e : dec n = (rdec n).reverse:=by rw [dec,if_neg h0]
    rw [e,natD_u32s]
    simp (disch:=first|exact dd|fail) only [go_sem,seval]
    refine callN (clone_u32 (l:=limbs n) (List.length_pos_iff.1 hp) (by omega)) ?_ ?_
    · simp (disch:=first|exact dd|fail) only [go_sem,seval]
      try exact LesV.refl _
    simp (disch:=first|exact dd|fail) only [go_sem,seval]
    refine AL.ofN 4 false 1 (fun _ => .unk) (TxP n (nb n)) (fun s => s.1) (fun s => [(3, .sl 1 1 0 (nb s.1)),(4, .sl 2 s.2.2 0 s.2.2)])
      (fun s => [(1, .row false 1 false 1 (nb n) (lR (limbs s.1 ++ s.2.1))),(2, .row false s.2.2 false 1 s.2.2 (bR (lowd s.2.2 n)))]) (n,[],0) (by simp (disch:=first|exact dd|fail) only [go_sem,seval]) ⟨rfl,by simp,Nat.zero_le _⟩ ?_ ?_ ?_ ?_
    · simp (disch:=first|exact dd|fail) only [go_sem,seval,hlb]
      try exact LesV.refl _
    · simp (disch:=first|exact dd|fail) only [go_sem,seval,hlb]
      exact ⟨fun _ _ => trivial,fun i hi => absurd hi (by omega)⟩
    · intro x _;simp (disch:=first|exact dd|fail) only [go_sem,seval]
    rintro ⟨m,t,j⟩ hP
    by_cases hm : m = 0
    · subst hm
      have hf : 0 = n / 10 ^ j:=hP.2.1
      have hjb : j ≤ 32 * nb n + 9:=hP.2.2
      have hnj : n < 10 ^ j:=by
        have:=(Nat.div_eq_zero_iff (a:=n) (b:=10 ^ j)).1 hf.symm
        rcases this with h | h
        · exact absurd h (by have:=Nat.pow_pos (n:=j) (show 0 < 10 by omega);omega)
        · exact h
      obtain ⟨z,hz⟩:=lowd_rdec j n hnj
      have hjl : j = (rdec n).length + z:=by
        have:=congrArg List.length hz
        rw [lowd_len,List.length_append,List.length_replicate] at this;exact this
      have hl0 : nb 0 = 0:=by unfold nb;rw [limbs_zero];rfl
      have hsn : (rdec n).length ≠ 0:=by rw [rdec_pos h0];simp
      have hla:=rdec_last (n:=n)
      clear hP hf hnj
      generalize hlo : lowd j n = lo at *
      subst hz
      generalize rdec n = s at *
      simp (disch:=first|exact dd|fail) only [go_sem,seval,hl0]
      refine AL.of (fun k : Nat => s.length ≤ k ∧ k ≤ j) (fun k => k) (fun k => [(4, .sl 2 j 0 k)]) (fun _ => [(2, .row false j false 1 j (bR (s ++ List.replicate z 48)))]) j ⟨by omega,Nat.le_refl _⟩ ?_ ?_ ?_ ?_
      · simp (disch:=first|exact dd|fail) only [go_sem,seval]
        try exact LeV.refl _
      · simp (disch:=first|exact dd|fail) only [go_sem,seval]
        try exact fun _ _ => trivial
      · intro x _;simp (disch:=first|exact dd|fail) only [go_sem,seval]
      rintro k ⟨hk1,hk2⟩
      obtain ⟨i,rfl⟩ : ∃ i,k = i + 1:=⟨k - 1,by omega⟩
      have ei : (((i + 1 : Nat) : Int) - 1).toNat = i:=by omega
      by_cases hks : i + 1 = s.length
      · have hb : bR (s ++ List.replicate z 48) i = .int .u8 ((s.getD i 0).toNat : Int):=by unfold bR;rw [getD_app (by omega)]
        have hne : (((s.getD i 0).toNat : Int) == 48) = false:=u8_ne48 (hla i hks)
        have hR:=slices_Reverse s (List.replicate z 48) j j (by rw [List.length_replicate];exact hjl) (by omega)
        have ei' : ((s.length : Int) - 1).toNat = i:=by omega
        have hbs : bstr [(2, .row false j false 1 j (bR (s.reverse ++ List.replicate z 48)))] (.sl 2 j 0 s.length) = some (.str s.reverse):=
          bstr_of rfl (by simp) fun i hi => by unfold bR;rw [getD_app (by rw [List.length_reverse];exact hi)]
        rw [hks]
        simp (disch:=first|exact dd|fail) only [go_sem,seval,ei',hb,hne]
        refine callG [2] hR rfl (by simp (disch:=first|exact dd|fail) only [go_sem,seval]) ?_ ?_ ?_
        · simp (disch:=first|exact dd|fail) only [go_sem,seval]
          try exact LesV.refl _
        · simp (disch:=first|exact dd|fail) only [go_sem,seval]
        simp (disch:=first|exact dd|fail) only [go_sem,seval,hbs]
        try exact LeV.refl _
      · have hb : bR (s ++ List.replicate z 48) i = .int .u8 48:=by
          unfold bR
          rw [List.getD_eq_getElem?_getD,List.getElem?_append_right (by omega),List.getElem?_replicate,if_pos (by omega)]
          rfl
        simp (disch:=first|exact dd|fail) only [go_sem,seval,ei,hb]
        refine ⟨i,⟨by omega,by omega⟩,Nat.lt_succ_self i, ?_, ?_⟩
        · simp (disch:=first|exact dd|fail) only [go_sem,seval]
          try exact LeV.refl _
        · simp (disch:=first|exact dd|fail) only [go_sem,seval]
          try exact fun _ _ => trivial
    · have hmp : 0 < (limbs m).length:=limbs_ne hm
      have hmn : nb m + t.length = nb n:=hP.1
      obtain ⟨hnx,x1,x2,x3,x4,x5,x6⟩:=hP.next hm
      have hdig:=fun i hi => hP.dig (i:=i) hi
      have hlm : (limbs m).length = nb m:=rfl
      have hS:=nat_shortN (l:=limbs m) (t:=t) (N:=nb n) (by omega) (limbs_low m) (by omega) (q:=1000000000) (by omega) (by omega) 1
      rw [hlm,x1] at hS
      clear hP
      simp (disch:=first|exact dd|fail) only [go_sem,seval]
      refine callG [1] hS rfl (by simp (disch:=first|exact dd|fail) only [go_sem,seval]) ?_ ?_ ?_
      · simp (disch:=first|exact dd|fail) only [go_sem,seval]
        try exact LesV.refl _
      · simp (disch:=first|exact dd|fail) only [go_sem,seval]
      simp (disch:=first|exact dd|fail) only [go_sem,seval]
      have hjb : j ≤ 32 * nb n + 9:=by have:=hnx.2.2;simp only at this;omega
      refine AL.of (fun i : Nat => i ≤ 9) (fun i => 9 - i) (fun i => [(3, .sl 1 1 0 (nb m)),(4, .sl 2 (j + i) 0 (j + i)),(5, .int .u32 ((m % 1000000000 / 10 ^ i : Nat) : Int)),(14, .int .i64 i)])
        (fun i => [(1, .row false 1 false 1 (nb n) (lR ((sdiv 1000000000 (limbs m)).1 ++ t))),(2, .row false (j + i) false 1 (j + i) (bR (lowd (j + i) n)))]) 0 (Nat.zero_le _) ?_ ?_ ?_ ?_
      · simp (disch:=first|exact dd|fail) only [go_sem,seval]
        try exact LeV_int (by simp)
      · simp (disch:=first|exact dd|fail) only [go_sem,seval]
        try exact ⟨fun _ _ => trivial,fun _ _ => trivial⟩
      · intro x _;simp (disch:=first|exact dd|fail) only [go_sem,seval]
      intro i hi
      by_cases hi9 : i = 9
      · subst hi9
        have hC:=nat_cutN x4 (N:=nb n) (by omega) (by omega) 1 (f:=lR ((sdiv 1000000000 (limbs m)).1 ++ t)) (fun i hi => by
          rw [lR,List.getD_eq_getElem?_getD,List.getElem?_append_left hi,← List.getD_eq_getElem?_getD])
        rw [x3,x6] at hC
        simp (disch:=first|exact dd|fail) only [go_sem,seval]
        refine callG [1] hC rfl (by simp (disch:=first|exact dd|fail) only [go_sem,seval]) ?_ ?_ ?_
        · simp (disch:=first|exact dd|fail) only [go_sem,seval]
          try exact LesV.refl _
        · simp (disch:=first|exact dd|fail) only [go_sem,seval]
        simp (disch:=first|exact dd|fail) only [go_sem,seval]
        refine ⟨_,hnx,x5, ?_, ?_⟩
        · simp (disch:=first|exact dd|fail) only [go_sem,seval]
          try exact LesV.refl _
        · simp (disch:=first|exact dd|fail) only [go_sem,seval,← x2]
          try exact ⟨fun _ _ => trivial,fun _ _ => trivial⟩
      · have hi' : i < 9:=by omega
        have hd:=hdig i hi'
        have hsn:=lowd_snoc (j + i) n
        have hnext : m % 1000000000 / 10 ^ (i + 1) = m % 1000000000 / 10 ^ i / 10:=by rw [Nat.pow_succ,Nat.div_div_eq_div_mul]
        have hlt : m % 1000000000 / 10 ^ i < 1000000000:=Nat.lt_of_le_of_lt (Nat.div_le_self _ _) (Nat.mod_lt _ (by omega))
        rw [← hd] at hsn
        clear hd hdig hS
        generalize hR : m % 1000000000 / 10 ^ i = R at *
        have htm : ((R : Nat) : Int).tmod 10 = ((R % 10 : Nat) : Int):=(Int.ofNat_tmod _ _).symm
        have htd : ((R : Nat) : Int).tdiv 10 = ((R / 10 : Nat) : Int):=(Int.ofNat_tdiv _ _).symm
        have hr10 : R % 10 < 10:=Nat.mod_lt _ (by omega)
        have hdg : 48 + ((R % 10 : Nat) : Int) = ((dg (R % 10)).toNat : Int):=by rw [dg_toNat hr10];omega
        have hdl : (dg (R % 10)).toNat < 256:=(dg (R % 10)).toNat_lt
        simp (disch:=first|exact dd|fail) only [go_sem,seval,htm,htd,hdg,hR]
        refine ⟨.inl trivial, .inr trivial,by omega,by omega, ?_⟩
        have hz:=lowd_len (j + i) n
        refine ⟨i + 1,by show i + 1 ≤ 9;omega,by show 9 - (i + 1) < 9 - i;omega, ?_, ?_⟩
        · show EnvLe _ _ _ [(3, .sl 1 1 0 (nb m)),(4, .sl 2 (j + i + 1) 0 (j + i + 1)),(5, .int .u32 ((m % 1000000000 / 10 ^ (i + 1) : Nat) : Int)),(14, .int .i64 ((i + 1 : Nat) : Int))]
          simp (disch:=first|exact dd|fail) only [go_sem,seval,hnext]
          try exact LeV_int (by omega)
        · show HLe _ _ [(1, .row false 1 false 1 (nb n) (lR ((sdiv 1000000000 (limbs m)).1 ++ t))),(2, .row false (j + i + 1) false 1 (j + i + 1) (bR (lowd (j + i + 1) n)))]
          rw [hsn]
          simp (disch:=first|exact dd|fail) only [go_sem,seval]
          refine ⟨fun _ _ => trivial,fun a ha => Le.of_eq ?_⟩
          have:=bR_app (lowd (j + i) n) [dg (R % 10)] (i:=a) (by rw [List.length_append,hz];exact ha)
          rw [hz] at this
          exact this
theorem dec_len (n : Nat) : (dec n).length ≤ 10 * nb n + 1:=by
  unfold dec
  have:=rdec_nb n
  split
  · simp
  · rw [List.length_reverse];omega
def decZ (z : Int) : List UInt8:=if z < 0 then 45 :: dec z.natAbs else dec z.natAbs
theorem decZ_len (z : Int) : (decZ z).length ≤ 10 * zb z + 2:=by
  have:=dec_len z.natAbs
  unfold decZ zb
  split
  · rw [List.length_cons];omega
  · omega
def decQ (q : Rat) : List UInt8:=if q.den = 1 then decZ q.num else decZ q.num ++ 47 :: dec q.den
theorem whole_Text {z : Int} (hz : zb z < 60000000) : C E 107 [zD z] (.str (decZ z)):=by
  refine CG_intro Tryz.func107 rfl (by kernel_rfl) rfl (by kernel_rfl) (by kernel_rfl) rfl ?_
  have hz' : nb z.natAbs < 60000000:=hz
  have hT:=nat_Text hz'
  have hl:=dec_len z.natAbs
  by_cases h : z < 0
  · have e : decZ z = 45 :: dec z.natAbs:=by unfold decZ;rw [if_pos h]
    have hd : decide (z < 0) = true:=decide_eq_true h
    rw [e]
    simp (disch:=first|exact dd|fail) only [go_sem,seval,hd]
    refine callC hT ?_ rfl ?_
    · simp (disch:=first|exact dd|fail) only [go_sem,seval,natD_u32s]
      try exact LesV.refl _
    simp (disch:=first|exact dd|fail) only [go_sem,seval]
    try exact LeV.refl _
  · have e : decZ z = dec z.natAbs:=by unfold decZ;rw [if_neg h]
    have hd : decide (z < 0) = false:=decide_eq_false h
    rw [e]
    simp (disch:=first|exact dd|fail) only [go_sem,seval,hd]
    refine callC hT ?_ rfl ?_
    · simp (disch:=first|exact dd|fail) only [go_sem,seval,natD_u32s]
      try exact LesV.refl _
    simp (disch:=first|exact dd|fail) only [go_sem,seval]
    try exact LeV.refl _
theorem rat_Text {q : Rat} (hq : qb 40000000 q) : C E 68 [qD q] (.str (decQ q)):=by
  refine CG_intro Tryz.func68 rfl (by kernel_rfl) rfl (by kernel_rfl) (by kernel_rfl) rfl ?_
  have n1:=nb_qden q
  obtain ⟨q1,q2⟩:=hq
  have hZ:=whole_Text (z:=q.num) (by omega)
  have hD:=nat_Text (n:=qden q) (by omega)
  have hB:=nat_Bits (n:=qden q) (by omega)
  have l1:=decZ_len q.num
  have l2:=dec_len q.den
  by_cases h : q.den = 1
  · have e : decQ q = decZ q.num:=by unfold decQ;rw [if_pos h]
    have e0 : qden q = 0:=by unfold qden;rw [if_pos h]
    have eb : ((nbit (qden q) : Nat) : Int) = 0:=by rw [e0];rfl
    rw [e]
    simp (disch:=first|exact dd|fail) only [go_sem,seval]
    refine callC hB ?_ rfl ?_
    · simp (disch:=first|exact dd|fail) only [go_sem,seval,natD_u32s]
      try exact LesV.refl _
    simp (disch:=first|exact dd|fail) only [go_sem,seval,eb]
    refine callC hZ ?_ rfl ?_
    · simp (disch:=first|exact dd|fail) only [go_sem,seval,natD_u32s]
      try exact LesV.refl _
    simp (disch:=first|exact dd|fail) only [go_sem,seval]
    try exact LeV.refl _
  · have e : decQ q = decZ q.num ++ 47 :: dec q.den:=by unfold decQ;rw [if_neg h]
    have e0 : qden q = q.den:=by unfold qden;rw [if_neg h]
    have hp:=nbit_pos (n:=qden q) (by rw [e0];exact q.den_pos)
    have eb : (((nbit (qden q) : Nat) : Int) == 0) = false:=beq_eq_false_iff_ne.2 (by omega)
    rw [e]
    rw [e0] at hD
    simp (disch:=first|exact dd|fail) only [go_sem,seval]
    refine callC hB ?_ rfl ?_
    · simp (disch:=first|exact dd|fail) only [go_sem,seval,natD_u32s]
      try exact LesV.refl _
    simp (disch:=first|exact dd|fail) only [go_sem,seval,eb]
    refine callCl hZ ?_ rfl ?_
    · simp (disch:=first|exact dd|fail) only [go_sem,seval,natD_u32s]
      try exact LesV.refl _
    simp (disch:=first|exact dd|fail) only [go_sem,seval]
    refine callCl hD ?_ rfl ?_
    · simp (disch:=first|exact dd|fail) only [go_sem,seval,natD_u32s,e0]
      try exact LesV.refl _
    simp (disch:=first|exact dd|fail) only [go_sem,seval]
    exact LeV.of_eq (by rw [List.append_assoc];rfl)
end Go.Proofs.YtakaojkfipnfcaaGreatDoor.Lv
