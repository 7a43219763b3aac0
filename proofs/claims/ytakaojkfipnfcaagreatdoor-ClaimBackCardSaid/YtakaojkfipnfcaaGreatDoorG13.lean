/- The program's numbers: take. The document's numbers: trim, NatOf, CmpNat, AddNat, SubNat. The program's numbers: guess. The program's numbers: long. The program's whole numbers: From, Sign, Abs, Cmp. The abstract machine: a region in each of its orders; what only looks at variables may come ahead of appending. -/
import Derived.Test.YtakaojkfipnfcaaGreatDoorG12
import Derived.Test.YtakaojkfipnfcaaGreatDoorG11
import Derived.Test.YtakaojkfipnfcaaGreatDoorG10
set_option linter.unusedVariables false
set_option linter.unusedSimpArgs false
set_option maxRecDepth 100000
set_option maxHeartbeats 4000000
namespace Go.Proofs.YtakaojkfipnfcaaGreatDoor.Lv
open Go Go.RowKit
theorem bits_andM (a : Nat) (ha : a < 18446744073709551616) : bits .u64 .and (a : Int) 4294967295 = ((a % 4294967296 : Nat) : Int):=by
  have:=bits_and a 4294967295 ha (by omega)
  rw [show (4294967295 : Nat) = 2 ^ 32 - 1 from rfl,Nat.and_two_pow_sub_one_eq_mod] at this
  exact this
def tkW (W V g n : Nat) : List Nat:=padL (if W < g * V then W + 4294967296 ^ n - g * V else W - g * V) n
theorem tk_eq {w m w1 : List Nat} {g neg : Nat} (h1 : w1.length = m.length + 1) (h2 : lows w1) (hn : neg ≤ 1) (h : val w1 + g * val m = val w + 4294967296 ^ (m.length + 1) * neg) : w1 = tkW (val w) (val m) g (m.length + 1) ∧ (neg = 1 ↔ val w < g * val m):=by
  have hlt:=val_ltB h2
  rw [h1] at hlt
  have hp:=pad_val h2
  rw [h1] at hp
  unfold tkW
  generalize 4294967296 ^ (m.length + 1) = B at *
  rcases (show neg = 0 ∨ neg = 1 by omega) with rfl | rfl
  · rw [Nat.mul_zero,Nat.add_zero] at h
    generalize g * val m = q at *
    refine ⟨?_,by omega⟩
    rw [if_neg (by omega),show val w - q = val w1 by omega];exact hp
  · rw [Nat.mul_one] at h
    generalize g * val m = q at *
    refine ⟨?_,by omega⟩
    rw [if_pos (by omega),show val w + B - q = val w1 by omega];exact hp
theorem take_fact {g x y c b : Nat} (hg : g < 4294967296) (hx : x < 4294967296) (hy : y < 4294967296) (hc : c < 4294967296) (hb : b ≤ 1) :
    IntKind.u64.wrap ((g : Int) * (y : Int)) = ((g * y : Nat) : Int) ∧ IntKind.u64.wrap ((c : Int) + ((g * y : Nat) : Int)) = ((c + g * y : Nat) : Int) ∧ bits .u64 .and ((c + g * y : Nat) : Int) 4294967295 = (((c + g * y) % 4294967296 : Nat) : Int) ∧
    IntKind.u32.wrap (IntKind.u64.wrap (IntKind.u64.wrap ((x : Int) - (b : Int)) - (((c + g * y) % 4294967296 : Nat) : Int))) = ((tkD g x y c b : Nat) : Int) ∧
    IntKind.u64.wrap (IntKind.u64.wrap ((x : Int) - (b : Int)) - (((c + g * y) % 4294967296 : Nat) : Int)) / 9223372036854775808 = ((tkB g x y c b : Nat) : Int) ∧
    ((c + g * y : Nat) : Int) / 4294967296 = (((c + g * y) / 4294967296 : Nat) : Int):=by
  obtain ⟨h1,h2,h3⟩:=mul_bound hc hg hy (by omega : 0 < 4294967296)
  rw [Nat.add_zero] at h2 h3
  rw [← Int.natCast_mul]
  unfold tkD tkB
  generalize g * y = p at *
  refine ⟨wrap_u64 (by omega),by rw [wrap_u64 (by omega)];omega,bits_andM _ h3, ?_, ?_,by omega⟩
  · generalize hm : (c + p) % 4294967296 = m
    have : m < 4294967296:=by omega
    rw [wrap_u32',u64_wr,u64_wr];omega
  · generalize hm : (c + p) % 4294967296 = m
    have : m < 4294967296:=by omega
    rw [u64_wr,u64_wr];split <;> omega
theorem take_last {x c b : Nat} (hx : x < 4294967296) (hc : c < 4294967296) (hb : b ≤ 1) :
    IntKind.u32.wrap (IntKind.u64.wrap (IntKind.u64.wrap ((x : Int) - (b : Int)) - (c : Int))) = (((18446744073709551616 + x - b - c) % 4294967296 : Nat) : Int) ∧
    IntKind.u64.wrap (IntKind.u64.wrap ((x : Int) - (b : Int)) - (c : Int)) / 9223372036854775808 = (((if x < b + c then 1 else 0) : Nat) : Int):=by
  refine ⟨?_, ?_⟩
  · rw [wrap_u32',u64_wr,u64_wr];omega
  · rw [u64_wr,u64_wr];split <;> omega
theorem nat_take {p w q m : List Nat} {N g : Nat} (lw : w.length = m.length + 1) (hw : lows w) (hm : lows m) (hg : g < 4294967296) (hN : N = p.length + (m.length + 1) + q.length) (hb : N < 1073741824) (ver : Nat) :
    CG E 204 [.sl 0 ver p.length (m.length + 1),u32s m, .int .u64 g] [(0, .row false ver false 1 N (lR (p ++ w ++ q)))] (.bool (decide (val w < g * val m)))
      [(0, .row false ver false 1 N (lR (p ++ tkW (val w) (val m) g (m.length + 1) ++ q)))]:=by
  refine CG_intro Tryz.func204 rfl (by kernel_rfl) rfl (by kernel_rfl) (by kernel_rfl) rfl ?_
  simp (disch:=first|exact dd|fail) only [go_sem,seval,u32s]
  refine AL.of (TkP g w m) (fun s => m.length - s.1) (fun s => [(0, .sl 0 ver p.length (m.length + 1)),(1,u32s m),(2, .int .u64 g),(7, .int .u64 s.2.1),(8, .int .u64 s.2.2.1),(11,u32s m),(12, .int .i64 m.length),(13, .int .i64 s.1)])
    (fun s => [(0, .row false ver false 1 N (lR (p ++ s.2.2.2 ++ q)))]) (0,0,0,w) (TkP.zero g lw hw) ?_ ?_ ?_ ?_
  · simp (disch:=first|exact dd|fail) only [go_sem,seval,u32s]
  · simp (disch:=first|exact dd|fail) only [go_sem,seval,u32s]
    try exact fun _ _ => trivial
  · intro x _;simp (disch:=first|exact dd|fail) only [go_sem,seval]
  rintro ⟨i,c,b,w'⟩ hP
  have hn:=hP.next hg hm
  have hf:=hP
  obtain ⟨h1,h2,h3,h4,h5,h6,h7⟩:=hP
  simp only at h1 h2 h3 h4 h5 h6 h7
  have gx:=h5.getD i
  have hget : lR (p ++ w' ++ q) (p.length + i) = .int .u32 ((w'.getD i 0 : Nat) : Int):=by rw [lR,win_get (by omega)]
  have hset:=fun (d j : Nat) => lR_set' (w:=p ++ w' ++ q) (i:=p.length + i) (d:=d) (j:=j) (by simp;omega)
  have hset2:=fun d : Nat => win_set (p:=p) (w:=w') (q:=q) (i:=i) (d:=d) (by omega)
  simp only [hset2] at hset
  by_cases hi : i = m.length
  · subst hi
    obtain ⟨t1,t2,t3,t4⟩:=hf.fin lw
    obtain ⟨e1,e2⟩:=take_last gx h2 h3
    have hneg : (if w'.getD m.length 0 < b + c then 1 else 0) ≤ 1:=by split <;> omega
    obtain ⟨r1,r2⟩:=tk_eq (t2.trans lw) t3 hneg t4
    have hres : (((((if w'.getD m.length 0 < b + c then 1 else 0) : Nat) : Int)) == 1) = decide (val w < g * val m):=by
      by_cases h : val w < g * val m
      · rw [decide_eq_true h,r2.2 h];rfl
      · rw [decide_eq_false h]
        have : (if w'.getD m.length 0 < b + c then 1 else 0) ≠ 1:=fun e => h (r2.1 e)
        rw [show (if w'.getD m.length 0 < b + c then 1 else 0) = 0 by omega];rfl
    rw [← r1,← hres]
    clear h6 h7 hf hn t4 r1 r2 hres t3
    simp (disch:=first|exact dd|fail) only [go_sem,seval,u32s,hget,e1,e2]
    exact fun j hj => Le.of_eq (hset _ j)
  · have hi' : i < m.length:=by omega
    have hn':=hn hi'
    have gy:=hm.getD i
    obtain ⟨a1,a2,a3,a4,a5,a6⟩:=take_fact hg gx gy h2 h3
    clear h6 h7 hf hn h5
    simp (disch:=first|exact dd|fail) only [go_sem,seval,u32s,hget,a1,a2,a3,a4,a5,a6]
    refine ⟨_,hn',by show m.length - (i + 1) < m.length - i;omega, ?_, ?_⟩
    · simp (disch:=first|exact dd|fail) only [go_sem,seval,u32s]
      try exact LeV_int (by omega)
    · simp (disch:=first|exact dd|fail) only [go_sem,seval,u32s]
      exact fun j hj => Le.of_eq (hset _ j)
def nD (n : Nat) : D:=u32s (limbs n)
section
variable (n : Nat) (h : Hp) (ρ : Nat → Option Nat) (r : Nat → Nat)
theorem cl_nD : cl (nD n) = true:=Eq.trans rfl rfl
theorem flat_nD : flat (nD n) = false:=Eq.trans rfl rfl
theorem imp_nD : imp ρ h (nD n) = nD n:=Eq.trans rfl rfl
theorem one_nD : one h (nD n) = true:=Eq.trans rfl rfl
end
attribute [go_sem] cl_nD flat_nD imp_nD one_nD
theorem ref_trim {l : List Nat} (hl : lows l) (hn : l.length < 4611686018427387904) : C E 160 [u32s l] (nD (val l)):=by
  refine CG_intro Tryz.func160 rfl (by kernel_rfl) rfl (by kernel_rfl) (by kernel_rfl) rfl ?_
  simp (disch:=first|exact dd|fail) only [go_sem,seval,u32s]
  refine AL.of (fun k : Nat => k ≤ l.length ∧ val (l.take k) = val l) (fun k => k) (fun k => [(0,u32s l),(3, .int .i64 k)]) (fun _ => []) l.length ⟨by omega,by simp⟩ ?_ ?_ ?_ ?_
  · simp (disch:=first|exact dd|fail) only [go_sem,seval,u32s]
  · simp (disch:=first|exact dd|fail) only [go_sem,seval]
  · intro x _;simp (disch:=first|exact dd|fail) only [go_sem,seval]
  rintro k ⟨h1,h2⟩
  have e0 : ((k : Nat) : Int).toNat = k:=by omega
  have fin : (∀ j,j + 1 = k → l.getD j 0 ≠ 0) → LeV (.ro false 1 k fun i => .int .u32 ((l.getD i 0 : Nat) : Int)) (nD (val l)):=fun h3 => by
    have e:=cut_fin hl h1 h2 h3
    rw [nD,u32s_lR,e]
    refine LeV.ro (by rw [List.length_take];omega) fun i hi => Le.of_eq ?_
    rw [lR,getD_take hi]
  by_cases hk : 0 < k
  · obtain ⟨j,rfl⟩ : ∃ j,k = j + 1:=⟨k - 1,by omega⟩
    have ej : (((j + 1 : Nat) : Int) - 1).toNat = j:=by omega
    by_cases h0 : l.getD j 0 = 0
    · simp (disch:=first|exact dd|fail) only [go_sem,seval,ej,u32s]
      refine ⟨j,⟨by omega,by rw [← val_take (by omega) h0];exact h2⟩,Nat.lt_succ_self j, ?_, ?_⟩
      · simp (disch:=first|exact dd|fail) only [go_sem,seval,u32s]
        try exact LeV_int (by omega)
      · simp (disch:=first|exact dd|fail) only [go_sem,seval]
    · have hf:=fin fun j' hj' => by
        obtain rfl : j' = j:=by omega
        exact h0
      simp (disch:=first|exact dd|fail) only [go_sem,seval,ej,e0,u32s]
      try exact hf
  · obtain rfl : k = 0:=by omega
    have hf:=fin fun j hj => by omega
    simp (disch:=first|exact dd|fail) only [go_sem,seval,u32s]
    try exact hf
theorem ref_NatOf {v : Nat} (h : v < 18446744073709551616) : C E 117 [.int .u64 v] (nD v):=by
  refine CG_intro Tryz.func117 rfl (by kernel_rfl) rfl (by kernel_rfl) (by kernel_rfl) rfl ?_
  have e1:=bits_andM v h
  have e2 : IntKind.u32.wrap ((v : Int) / 4294967296) = ((v / 4294967296 : Nat) : Int):=by rw [wrap_u32'];omega
  have e3 : IntKind.u32.wrap ((v % 4294967296 : Nat) : Int) = ((v % 4294967296 : Nat) : Int):=wrap_u32 (by omega)
  simp (disch:=first|exact dd|fail) only [go_sem,seval,e1,e2,e3]
  have hc:=ref_trim (l:=[v % 4294967296,v / 4294967296]) (by intro x hx;simp at hx;omega) (by simp)
  rw [show val [v % 4294967296,v / 4294967296] = v by simp only [val];omega] at hc
  refine callC hc ?_ rfl ?_
  · simp (disch:=first|exact dd|fail) only [go_sem,seval,u32s]
    refine LesV_rows rfl fun i hi => ?_
    rcases i with _ | _ | i
    · rfl
    · rfl
    · omega
  simp (disch:=first|exact dd|fail) only [go_sem,seval]
theorem ref_CmpNat {a b : Nat} (ha : nb a < 1073741824) (hb : nb b < 1073741824) : C E 115 [nD a,nD b] (.int .i64 (sgI a b)):=by
  refine CG_intro Tryz.func115 rfl (by kernel_rfl) rfl (by kernel_rfl) (by kernel_rfl) rfl ?_
  unfold nb at ha hb
  have va:=val_limbs a
  have vb:=val_limbs b
  have la:=limbs_low a
  have lb:=limbs_low b
  have hc1:=@cmp_len a b
  have hc2:=@cmp_len b a
  simp only [nD]
  generalize limbs a = l at *
  generalize limbs b = m at *
  by_cases h1 : l.length < m.length
  · rw [sgI_lt (by have:=hc1 h1;omega)]
    simp (disch:=first|exact dd|fail) only [go_sem,seval,u32s]
  by_cases h2 : m.length < l.length
  · rw [sgI_gt (by have:=hc2 h2;omega)]
    simp (disch:=first|exact dd|fail) only [go_sem,seval,u32s]
  have he : l.length = m.length:=by omega
  clear hc1 hc2
  subst va vb
  simp (disch:=first|exact dd|fail) only [go_sem,seval,u32s,he]
  refine AL.of (fun k : Nat => k ≤ m.length ∧ l.drop k = m.drop k) (fun k => k) (fun k => [(0,u32s l),(1,u32s m),(5, .int .i64 ((k : Int) - 1))]) (fun _ => []) m.length ⟨Nat.le_refl _,by rw [← he,List.drop_length,he,List.drop_length]⟩ ?_ ?_ ?_ ?_
  · simp (disch:=first|exact dd|fail) only [go_sem,seval,u32s,he]
  · simp (disch:=first|exact dd|fail) only [go_sem,seval]
  · intro x _;simp (disch:=first|exact dd|fail) only [go_sem,seval]
  rintro k ⟨hk,hd⟩
  rcases k with _ | k
  · rw [List.drop_zero,List.drop_zero] at hd
    subst hd
    rw [sgI_eq]
    simp (disch:=first|exact dd|fail) only [go_sem,seval]
  · have e1 : (((k + 1 : Nat) : Int) - 1).toNat = k:=by omega
    have c1:=cmp_at (k:=k) la lb he (by omega) hd
    have c2:=cmp_at (k:=k) lb la he.symm (by omega) hd.symm
    by_cases hx : l.getD k 0 < m.getD k 0
    · rw [sgI_lt (by have:=c1 hx;omega)]
      clear c1 c2 hd
      simp (disch:=first|exact dd|fail) only [go_sem,seval,u32s,e1,he]
    by_cases hy : m.getD k 0 < l.getD k 0
    · rw [sgI_gt (by have:=c2 hy;omega)]
      clear c1 c2 hd
      simp (disch:=first|exact dd|fail) only [go_sem,seval,u32s,e1,he]
    have hxy : l.getD k 0 = m.getD k 0:=by omega
    have hd' : l.drop k = m.drop k:=by rw [lim_drop (l:=l) (by omega),lim_drop (l:=m) (by omega),hd,hxy]
    clear c1 c2 hd
    simp (disch:=first|exact dd|fail) only [go_sem,seval,u32s,e1,he]
    refine ⟨k,⟨by omega,hd'⟩,Nat.lt_succ_self k, ?_, ?_⟩
    · simp (disch:=first|exact dd|fail) only [go_sem,seval,u32s,he]
      try exact LeV_int (by omega)
    · simp (disch:=first|exact dd|fail) only [go_sem,seval]
def RsP (x y : List Nat) (n : Nat) (s : Nat × Nat × List Nat) : Prop:=s.1 ≤ n ∧ s.2.1 ≤ 1 ∧ s.2.2.length = n ∧ lows s.2.2 ∧ val (s.2.2.take s.1) + 4294967296 ^ s.1 * s.2.1 = val (x.take s.1) + val (y.take s.1)
theorem RsP.next {x y : List Nat} (hx : lows x) (hy : lows y) {n i c : Nat} {w : List Nat} (h : RsP x y n (i,c,w)) (hi : i < n) :
    RsP x y n (i + 1,(c + x.getD i 0 + y.getD i 0) / 4294967296,w.set i ((c + x.getD i 0 + y.getD i 0) % 4294967296)):=by
  obtain ⟨h1,h2,h3,h4,h5⟩:=h
  simp only at h1 h2 h3 h4 h5
  have g1:=hx.getD i
  have g2:=hy.getD i
  have hstep:=sum_step (w:=w) (d:=(c + x.getD i 0 + y.getD i 0) % 4294967296) (c':=(c + x.getD i 0 + y.getD i 0) / 4294967296) (by omega) h5 (by omega)
  clear h5
  have hc : (c + x.getD i 0 + y.getD i 0) / 4294967296 ≤ 1:=by omega
  exact ⟨hi,hc,by simp only [List.length_set];exact h3,lows_set h4 (by omega),hstep⟩
theorem pow_dbl (M : Nat) : 4294967296 ^ M + 4294967296 ^ M ≤ 4294967296 ^ (M + 1):=by
  rw [Nat.pow_succ]
  generalize 4294967296 ^ M = p
  omega
theorem RsP.fin {x y : List Nat} (hx : lows x) (hy : lows y) {c : Nat} {w : List Nat} (h : RsP x y (max x.length y.length + 1) (max x.length y.length + 1,c,w)) : lows w ∧ val w = val x + val y:=by
  obtain ⟨h1,h2,h3,h4,h5⟩:=h
  simp only at h1 h2 h3 h4 h5
  rw [List.take_of_length_le (by omega),List.take_of_length_le (by omega),List.take_of_length_le (by omega)] at h5
  have b1:=val_ltB hx
  have b2:=val_ltB hy
  have p1 : (4294967296 : Nat) ^ x.length ≤ 4294967296 ^ max x.length y.length:=Nat.pow_le_pow_right (by omega) (Nat.le_max_left _ _)
  have p2 : (4294967296 : Nat) ^ y.length ≤ 4294967296 ^ max x.length y.length:=Nat.pow_le_pow_right (by omega) (Nat.le_max_right _ _)
  have p3:=pow_dbl (max x.length y.length)
  refine ⟨h4, ?_⟩
  generalize 4294967296 ^ (max x.length y.length + 1) = q at *
  generalize 4294967296 ^ max x.length y.length = p at *
  rcases (show c = 0 ∨ c = 1 by omega) with rfl | rfl
  · rw [Nat.mul_zero] at h5;omega
  · rw [Nat.mul_one] at h5;omega
theorem ref_AddNat {a b : Nat} (ha : nb a < 536870912) (hb : nb b < 536870912) : C E 184 [nD a,nD b] (nD (a + b)):=by
  refine CG_intro Tryz.func184 rfl (by kernel_rfl) rfl (by kernel_rfl) (by kernel_rfl) rfl ?_
  unfold nb at ha hb
  have va:=val_limbs a
  have vb:=val_limbs b
  have la:=limbs_low a
  have lb:=limbs_low b
  simp only [nD]
  generalize limbs a = l at *
  generalize limbs b = m at *
  subst va vb
  have em : max (l.length : Int) (m.length : Int) = ((max l.length m.length : Nat) : Int):=by omega
  have hM1:=Nat.le_max_left l.length m.length
  have hM2:=Nat.le_max_right l.length m.length
  have hM3 : max l.length m.length < 536870912:=by omega
  have hP0 : RsP l m (max l.length m.length + 1) (0,0,List.replicate (max l.length m.length + 1) 0):=⟨by simp,by simp,by simp,lows_rep _,by simp [val]⟩
  have hfin : ∀ c w,RsP l m (max l.length m.length + 1) (max l.length m.length + 1,c,w) → lows w ∧ val w = val l + val m:=fun c w h => h.fin la lb
  generalize max l.length m.length = M at *
  have e0 : ((M : Int) + 1).toNat = M + 1:=by omega
  simp (disch:=first|exact dd|fail) only [go_sem,seval,u32s,em,e0]
  refine ⟨by omega,by omega,by omega, ?_⟩
  refine AL.of (RsP l m (M + 1)) (fun s => M + 1 - s.1) (fun s => [(0,u32s l),(1,u32s m),(5, .sl 0 0 0 (M + 1)),(6, .int .u64 s.2.1),(7, .int .i64 s.1)]) (fun s => [(0, .row false 0 false 1 (M + 1) (lR s.2.2))]) (0,0,List.replicate (M + 1) 0) hP0 ?_ ?_ ?_ ?_
  · simp (disch:=first|exact dd|fail) only [go_sem,seval,u32s,e0]
  · simp (disch:=first|exact dd|fail) only [go_sem,seval,u32s,e0]
    try exact fun i hi => Le.of_eq (by unfold lR;rw [List.getD_eq_getElem?_getD,List.getElem?_replicate,if_pos hi];rfl)
  · intro x _;simp (disch:=first|exact dd|fail) only [go_sem,seval]
  rintro ⟨i,c,w⟩ hP
  have hn:=hP.next la lb
  have hf:=hP
  obtain ⟨h1,h2,h3,h4,h5⟩:=hP
  simp only at h1 h2 h3 h4 h5
  have g1:=la.getD i
  have g2:=lb.getD i
  by_cases hi : i = M + 1
  · subst hi
    obtain ⟨q1,q2⟩:=hfin _ _ hf
    have hc:=ref_trim q1 (by omega)
    rw [q2] at hc
    clear h5 hf hn h4 hfin hP0
    simp (disch:=first|exact dd|fail) only [go_sem,seval,u32s]
    refine callC hc ?_ rfl ?_
    · simp (disch:=first|exact dd|fail) only [go_sem,seval,u32s]
      first | exact LesV_rows (by omega) fun j hj => rfl | (rw [h3];exact LesV_rows rfl fun j hj => rfl)
    simp (disch:=first|exact dd|fail) only [go_sem,seval]
    try exact LeV.refl _
  have hi' : i < M + 1:=by omega
  have hn':=hn hi'
  clear hn hf h5 h4 h1 hfin hP0
  have done : ∀ t : Nat,t = c + l.getD i 0 + m.getD i 0 → bits .u64 .and (t : Int) 4294967295 = ((t % 4294967296 : Nat) : Int) ∧ IntKind.u32.wrap ((t % 4294967296 : Nat) : Int) = ((t % 4294967296 : Nat) : Int) ∧ (t : Int) / 4294967296 = ((t / 4294967296 : Nat) : Int):=fun t ht =>
    ⟨bits_andM t (by omega),wrap_u32 (by omega),by omega⟩
  by_cases hj : i < l.length
  · by_cases hk : i < m.length
    · obtain ⟨d1,d2,d3⟩:=done _ rfl
      have e3 : (c : Int) + ((l.getD i 0 : Nat) : Int) + ((m.getD i 0 : Nat) : Int) = ((c + l.getD i 0 + m.getD i 0 : Nat) : Int):=by omega
      simp (disch:=first|exact dd|fail) only [go_sem,seval,u32s,lR,e3,d1,d2,d3]
      refine ⟨_,hn',by show M + 1 - (i + 1) < M + 1 - i;omega, ?_, ?_⟩
      · simp (disch:=first|exact dd|fail) only [go_sem,seval,u32s]
        try exact LeV_int (by omega)
      · simp (disch:=first|exact dd|fail) only [go_sem,seval,u32s]
        exact fun j hj => Le.of_eq (lR_set' (w:=w) (by omega))
    · have hy0:=getD_out' (l:=m) (i:=i) (by omega)
      rw [hy0,Nat.add_zero] at hn'
      obtain ⟨d1,d2,d3⟩:=done (c + l.getD i 0) (by omega)
      have e3 : (c : Int) + ((l.getD i 0 : Nat) : Int) = ((c + l.getD i 0 : Nat) : Int):=by omega
      simp (disch:=first|exact dd|fail) only [go_sem,seval,u32s,lR,e3,d1,d2,d3]
      refine ⟨_,hn',by show M + 1 - (i + 1) < M + 1 - i;omega, ?_, ?_⟩
      · simp (disch:=first|exact dd|fail) only [go_sem,seval,u32s]
        try exact LeV_int (by omega)
      · simp (disch:=first|exact dd|fail) only [go_sem,seval,u32s]
        exact fun j hj => Le.of_eq (lR_set' (w:=w) (by omega))
  · have hx0:=getD_out' (l:=l) (i:=i) (by omega)
    by_cases hk : i < m.length
    · rw [hx0,Nat.add_zero] at hn'
      obtain ⟨d1,d2,d3⟩:=done (c + m.getD i 0) (by omega)
      have e3 : (c : Int) + ((m.getD i 0 : Nat) : Int) = ((c + m.getD i 0 : Nat) : Int):=by omega
      simp (disch:=first|exact dd|fail) only [go_sem,seval,u32s,lR,e3,d1,d2,d3]
      refine ⟨_,hn',by show M + 1 - (i + 1) < M + 1 - i;omega, ?_, ?_⟩
      · simp (disch:=first|exact dd|fail) only [go_sem,seval,u32s]
        try exact LeV_int (by omega)
      · simp (disch:=first|exact dd|fail) only [go_sem,seval,u32s]
        exact fun j hj => Le.of_eq (lR_set' (w:=w) (by omega))
    · have hy0:=getD_out' (l:=m) (i:=i) (by omega)
      rw [hx0,hy0,Nat.add_zero,Nat.add_zero] at hn'
      obtain ⟨d1,d2,d3⟩:=done c (by omega)
      simp (disch:=first|exact dd|fail) only [go_sem,seval,u32s,lR,d1,d2,d3]
      refine ⟨_,hn',by show M + 1 - (i + 1) < M + 1 - i;omega, ?_, ?_⟩
      · simp (disch:=first|exact dd|fail) only [go_sem,seval,u32s]
        try exact LeV_int (by omega)
      · simp (disch:=first|exact dd|fail) only [go_sem,seval,u32s]
        exact fun j hj => Le.of_eq (lR_set' (w:=w) (by omega))
theorem GsP.small {V W P v1 v2 U x : Nat} (G : Gue V W P v1 v2 U x) {k g r : Nat} (h : GsP V W v1 v2 U x (k,g,r)) : g < 4294967298 ∧ r < 36893488147419103232:=by
  have ht:=G.top
  have hb:=G.big
  have h1 : g * v1 + r = U:=h.1
  have l1:=G.l1
  have hlt : g * v1 < 4294967298 * v1:=by omega
  exact ⟨Nat.lt_of_mul_lt_mul_right hlt,by omega⟩
theorem gs_mul {g y : Nat} (hg : g < 4294967296) (hy : y < 4294967296) : IntKind.u64.wrap ((g : Int) * (y : Int)) = ((g * y : Nat) : Int):=by
  have h1 : g * y ≤ 4294967295 * 4294967295:=Nat.mul_le_mul (by omega) (by omega)
  rw [← Int.natCast_mul]
  generalize g * y = p at *
  exact wrap_u64 (by omega)
theorem nat_guess {p w q m : List Nat} {N k P : Nat} (lm : m.length = k + 2) (lw : w.length = k + 3) (hw : lows w) (hm : lows m) (hN : N = p.length + (k + 3) + q.length) (hb : N < 1073741824) (ver : Nat)
    (G : Gue (val m) (val w) P (m.getD (k + 1) 0) (m.getD k 0) (w.getD (k + 2) 0 * 4294967296 + w.getD (k + 1) 0) (w.getD k 0)) :
    CG E 203 [.sl 0 ver p.length (k + 3),u32s m] [(0, .row false ver false 1 N (lR (p ++ w ++ q)))]
      (.int .u64 ((gss (m.getD (k + 1) 0) (m.getD k 0) (w.getD (k + 2) 0 * 4294967296 + w.getD (k + 1) 0) (w.getD k 0) : Nat) : Int))
      [(0, .row false ver false 1 N (lR (p ++ w ++ q)))]:=by
  refine CG_intro Tryz.func203 rfl (by kernel_rfl) rfl (by kernel_rfl) (by kernel_rfl) rfl ?_
  have g0:=hw.getD k
  have g1:=hw.getD (k + 1)
  have g2:=hw.getD (k + 2)
  have y0:=hm.getD k
  have y1:=hm.getD (k + 1)
  have hU:=or_up _ _ g2 g1
  have q0 : lR (p ++ w ++ q) (p.length + k) = .int .u32 ((w.getD k 0 : Nat) : Int):=by rw [lR,win_get (by omega)]
  have q1 : lR (p ++ w ++ q) (p.length + (k + 1)) = .int .u32 ((w.getD (k + 1) 0 : Nat) : Int):=by rw [lR,win_get (by omega)]
  have q2 : lR (p ++ w ++ q) (p.length + (k + 2)) = .int .u32 ((w.getD (k + 2) 0 : Nat) : Int):=by rw [lR,win_get (by omega)]
  generalize hA0 : w.getD k 0 = a0 at *
  generalize hA1 : w.getD (k + 1) 0 = a1 at *
  generalize hA2 : w.getD (k + 2) 0 = a2 at *
  generalize hB0 : m.getD k 0 = b0 at *
  generalize hB1 : m.getD (k + 1) 0 = b1 at *
  generalize hR : lR (p ++ w ++ q) = R at *
  have hbig:=G.big
  have hz:=GsP.zero G
  have i1 : (((k + 2 : Nat) : Int) - 1).toNat = k + 1:=by omega
  have i2 : (((k + 2 : Nat) : Int) - 2).toNat = k:=by omega
  have i0 : ((k + 2 : Nat) : Int).toNat = k + 2:=by omega
  have htd : ∀ U : Nat,((U : Nat) : Int).tdiv (b1 : Int) = ((U / b1 : Nat) : Int):=fun U => (Int.ofNat_tdiv _ _).symm
  have htm : ∀ U : Nat,((U : Nat) : Int).tmod (b1 : Int) = ((U % b1 : Nat) : Int):=fun U => (Int.ofNat_tmod _ _).symm
  have hU2 : a2 * 4294967296 + a1 < 18446744073709551616:=by omega
  have hgss : gss b1 b0 (a2 * 4294967296 + a1) a0 = gsG b1 b0 a0 2 ((a2 * 4294967296 + a1) / b1) ((a2 * 4294967296 + a1) % b1):=rfl
  rw [hgss]
  generalize a2 * 4294967296 + a1 = U at *
  have hd1 : U / b1 ≤ U:=Nat.div_le_self _ _
  have hd2 : U % b1 ≤ U:=Nat.mod_le _ _
  have hwd : IntKind.u64.wrap ((U / b1 : Nat) : Int) = ((U / b1 : Nat) : Int):=by
    generalize U / b1 = z at *
    exact wrap_u64 (by omega)
  simp (disch:=first|exact dd|fail) only [go_sem,seval,u32s,lm,i0,i1,i2,q0,q1,q2,hB0,hB1,hU,htd,htm,hwd]
  refine AL.of (fun s : Nat × Nat × Nat => GsP (val m) (val w) b1 b0 U a0 s ∧ gsG b1 b0 a0 s.1 s.2.1 s.2.2 = gsG b1 b0 a0 2 (U / b1) (U % b1)) (fun s => s.1) (fun s => [(0, .sl 0 ver p.length (k + 3)),(1,u32s m),(5, .int .i64 ((k + 2 : Nat) : Int)),(7, .int .u64 b1),(8, .int .u64 s.2.1),(9, .int .u64 s.2.2)])
    (fun _ => [(0, .row false ver false 1 N R)]) (2,U / b1,U % b1) ⟨hz,rfl⟩ ?_ ?_ ?_ ?_
  · simp (disch:=first|exact dd|fail) only [go_sem,seval,u32s,lm]
  · simp (disch:=first|exact dd|fail) only [go_sem,seval,u32s]
    try exact fun _ _ => trivial
  · intro x _;simp (disch:=first|exact dd|fail) only [go_sem,seval]
  rintro ⟨j,g,r⟩ ⟨hP,hE⟩
  simp only at hE
  obtain ⟨sg,sr⟩:=hP.small G
  have step : (r < 4294967296 ∧ (4294967296 ≤ g ∨ r * 4294967296 + a0 < g * b0)) → ∃ j',j = j' + 1 ∧ 0 < g ∧ GsP (val m) (val w) b1 b0 U a0 (j',g - 1,r + b1) ∧ gsG b1 b0 a0 j' (g - 1) (r + b1) = gsG b1 b0 a0 2 (U / b1) (U % b1):=fun hc => by
    obtain ⟨j',e,e1,e2⟩:=hP.next G hc
    subst e
    rw [gsG_t hc] at hE
    exact ⟨j',rfl,e1,e2,hE⟩
  have stop : ¬ (r < 4294967296 ∧ (4294967296 ≤ g ∨ r * 4294967296 + a0 < g * b0)) → gsG b1 b0 a0 2 (U / b1) (U % b1) = g:=fun hc => by rw [← hE,gsG_f hc]
  clear hP hE hz hgss hd1 hd2 hR
  by_cases hr : r < 4294967296
  · by_cases hg : g < 4294967296
    · have hmul:=gs_mul hg y0
      have hx:=or_up _ _ hr g0
      by_cases hc : r * 4294967296 + a0 < g * b0
      · obtain ⟨j',rfl,e1,e2,e3⟩:=step ⟨hr, .inr hc⟩
        have hdc : decide (((g * b0 : Nat) : Int) > ((r * 4294967296 + a0 : Nat) : Int)) = true:=decide_eq_true (Int.ofNat_lt.2 hc)
        have hw1 : IntKind.u64.wrap ((g : Int) - 1) = ((g - 1 : Nat) : Int):=by rw [wrap_u64 (by omega)];omega
        have hw2 : IntKind.u64.wrap ((r : Int) + (b1 : Int)) = ((r + b1 : Nat) : Int):=by rw [wrap_u64 (by omega)];omega
        clear step stop hc
        simp (disch:=first|exact dd|fail) only [go_sem,seval,u32s,i2,q0,hB0,hmul,hx,hdc,hw1,hw2]
        refine ⟨(j',g - 1,r + b1),⟨e2,e3⟩,Nat.lt_succ_self _, ?_, ?_⟩
        · simp (disch:=first|exact dd|fail) only [go_sem,seval,u32s]
        · simp (disch:=first|exact dd|fail) only [go_sem,seval,u32s]
          try exact fun _ _ => trivial
      · have e:=stop fun h => h.2.elim (fun h => by omega) hc
        rw [e]
        have hdc : decide (((g * b0 : Nat) : Int) > ((r * 4294967296 + a0 : Nat) : Int)) = false:=decide_eq_false fun h => hc (Int.ofNat_lt.1 h)
        clear step stop hc e
        simp (disch:=first|exact dd|fail) only [go_sem,seval,u32s,i2,q0,hB0,hmul,hx,hdc]
        try exact fun _ _ => trivial
    · obtain ⟨j',rfl,e1,e2,e3⟩:=step ⟨hr, .inl (by omega)⟩
      have hw1 : IntKind.u64.wrap ((g : Int) - 1) = ((g - 1 : Nat) : Int):=by rw [wrap_u64 (by omega)];omega
      have hw2 : IntKind.u64.wrap ((r : Int) + (b1 : Int)) = ((r + b1 : Nat) : Int):=by rw [wrap_u64 (by omega)];omega
      clear step stop
      simp (disch:=first|exact dd|fail) only [go_sem,seval,u32s,i2,q0,hB0,hw1,hw2]
      refine ⟨(j',g - 1,r + b1),⟨e2,e3⟩,Nat.lt_succ_self _, ?_, ?_⟩
      · simp (disch:=first|exact dd|fail) only [go_sem,seval,u32s]
      · simp (disch:=first|exact dd|fail) only [go_sem,seval,u32s]
        try exact fun _ _ => trivial
  · have e:=stop fun h => hr h.1
    rw [e]
    clear step stop e
    simp (disch:=first|exact dd|fail) only [go_sem,seval,u32s]
    try exact fun _ _ => trivial
theorem padL_low {n N : Nat} : lows (padL n N):=lows_app (limbs_low n) (lows_rep _)
theorem padL_val (n N : Nat) : val (padL n N) = n:=by rw [padL,val_append,val_rep,val_limbs,Nat.mul_zero,Nat.add_zero]
theorem take_right {w m : List Nat} {g : Nat} (lw : w.length = m.length + 1) (hw : lows w) (h : ¬ val w < g * val m) (h2 : val w < (g + 1) * val m) :
    (tkW (val w) (val m) g (m.length + 1)).length = w.length ∧ lows (tkW (val w) (val m) g (m.length + 1)) ∧ val w / val m = g ∧ val w % val m = val (tkW (val w) (val m) g (m.length + 1)):=by
  have hlt:=val_ltB hw
  rw [lw] at hlt
  unfold tkW
  rw [if_neg h]
  have hd:=div_right (w1:=val w - g * val m) (W:=val w) (V:=val m) (g:=g) (Q:=0) (by omega) h2
  refine ⟨by rw [padL_len (nb_lt.2 (by omega))];omega,padL_low,hd.1,by rw [padL_val];exact hd.2⟩
theorem take_wrong {w m : List Nat} {g : Nat} (lw : w.length = m.length + 1) (hw : lows w) (hm : lows m) (h : val w < g * val m) (h2 : g * val m < val w + val m) :
    (tkW (val w) (val m) g (m.length + 1)).length = m.length + 1 ∧ lows (tkW (val w) (val m) g (m.length + 1)) ∧ val (tkW (val w) (val m) g (m.length + 1)) + g * val m = val w + 4294967296 ^ (m.length + 1) * 1:=by
  have hlt:=val_ltB hm
  have hlw:=val_ltB hw
  rw [lw] at hlw
  have hB : 4294967296 ^ (m.length + 1) = 4294967296 ^ m.length * 4294967296:=Nat.pow_succ ..
  unfold tkW
  rw [if_pos h]
  refine ⟨padL_len (nb_lt.2 (by omega)),padL_low, ?_⟩
  rw [padL_val]
  omega
theorem put_back {w m w1 w2 : List Nat} {g k : Nat} (lw2 : w2.length = m.length + 1) (l2 : lows w2) (lw1 : w1.length = m.length + 1) (l1 : lows w1) (hm : lows m) (h1 : val w1 + g * val m = val w + 4294967296 ^ (m.length + 1) * 1) (h2 : val w2 + 4294967296 ^ (m.length + 1) * k = val w1 + val m) (hg : g * val m < val w + val m) :
    0 < g ∧ val w / val m = g - 1 ∧ val w % val m = val w2:=by
  have a1:=val_ltB l1
  have a2:=val_ltB l2
  have a3:=val_ltB hm
  rw [lw1] at a1
  rw [lw2] at a2
  have hB : 4294967296 ^ (m.length + 1) = 4294967296 ^ m.length * 4294967296:=Nat.pow_succ ..
  exact div_back h1 h2 a1 a2 hg (by omega)
theorem LongP.pad {u v u' q : List Nat} {M : Nat} (h : LongP u v 0 u' q) (hM : M + v.length = u.length) : q = padL (val u / val v) M ∧ u' = padL (val u % val v) u.length:=by
  obtain ⟨e1,e2⟩:=h.fin
  obtain ⟨h1,h2,h3,h4,h5,h6⟩:=h
  have p1:=pad_val h3
  have p2:=pad_val h2
  rw [e1,show q.length = M by omega] at p1
  rw [e2,h1] at p2
  exact ⟨p1,p2⟩
theorem nat_long {u v t : List Nat} {M N k : Nat} (hu : lows u) (hv : lows v) (lv : v.length = k + 2) (hM : M + v.length = u.length) (hbig : 2147483648 ≤ v.getD (k + 1) 0) (hlt : val (u.drop M) < val v) (hN : N = M + (k + 2) + t.length) (hb : N < 1073741824) (ver : Nat) (f : Nat → D) (hf : ∀ j,j < N → f j = lR (u ++ t) j) :
    CG E 194 [.sl 0 ver 0 (M + (k + 2)),u32s v] [(0, .row false ver false 1 N f)] (.sl 1 0 0 M)
      [(0, .row false ver false 1 N (lR (padL (val u % val v) (M + (k + 2)) ++ t))),(1, .row false 0 false 1 M (lR (padL (val u / val v) M)))]:=by
  refine CG_intro Tryz.func194 rfl (by kernel_rfl) rfl (by kernel_rfl) (by kernel_rfl) rfl ?_
  have e0 : (((M + (k + 2) : Nat) : Int) - ((k + 2 : Nat) : Int)).toNat = M:=by omega
  simp (disch:=first|exact dd|fail) only [go_sem,seval,u32s,lv,e0]
  refine ⟨by omega,by omega,by omega, ?_⟩
  refine AL.of (fun s : Nat × List Nat × List Nat => s.1 ≤ M ∧ LongP u v s.1 s.2.1 s.2.2) (fun s => s.1) (fun s => [(0, .sl 0 ver 0 (M + (k + 2))),(1,u32s v),(5, .int .i64 ((k + 2 : Nat) : Int)),(6, .sl 1 0 0 M),(7, .int .i64 ((s.1 : Int) - 1))])
    (fun s => [(1, .row false 0 false 1 M (lR s.2.2)),(0, .row false ver false 1 N (lR (s.2.1 ++ t)))]) (M,u,List.replicate M 0) ⟨Nat.le_refl _,LongP.zero hu hM hlt⟩ ?_ ?_ ?_ ?_
  · simp (disch:=first|exact dd|fail) only [go_sem,seval,u32s,lv,e0]
    try exact LeV_int (by omega)
  · simp (disch:=first|exact dd|fail) only [go_sem,seval,u32s,e0]
    exact ⟨fun i hi => Le.of_eq (by unfold lR;rw [List.getD_eq_getElem?_getD,List.getElem?_replicate,if_pos hi];rfl),fun i hi => Le.of_eq (hf i hi)⟩
  · intro x _;simp (disch:=first|exact dd|fail) only [go_sem,seval]
  rintro ⟨c,u',q⟩ ⟨hc,hP⟩
  simp only at hc hP
  rcases c with _ | j
  · obtain ⟨p1,p2⟩:=hP.pad hM
    rw [show u.length = M + (k + 2) by omega] at p2
    rw [← p1,← p2]
    simp (disch:=first|exact dd|fail) only [go_sem,seval]
    exact ⟨fun _ _ => trivial,fun _ _ => trivial⟩
  · obtain ⟨p,w,r,rfl,hp,lw,lw',hr,hlt',lp,lr⟩:=hP.parts hv (by have:=hP.2.2.2.1;omega)
    have G:=Gue.of (k:=k) lw' hv (by omega) lv hbig hlt'
    have hlen:=hP.1
    have hassoc : ∀ z : List Nat,(p ++ z ++ r) ++ t = p ++ z ++ (r ++ t):=fun z => List.append_assoc _ _ _
    rw [hassoc]
    have hN' : N = p.length + (k + 3) + (r ++ t).length:=by simp at hlen ⊢;omega
    have hg:=nat_guess (p:=p) (q:=r ++ t) lv (by omega) lw' hv hN' hb ver G
    subst hp
    have s1 : (((p.length + 1 : Nat) : Int) - 1).toNat = p.length:=by omega
    have s2 : (((p.length + 1 : Nat) : Int) - 1 + ((k + 2 : Nat) : Int) + 1).toNat = p.length + (k + 3):=by omega
    have s3 : p.length + (k + 3) - p.length = k + 3:=by omega
    obtain ⟨o1,o2,o3⟩:=gss_ok G
    clear G hbig
    generalize gss (v.getD (k + 1) 0) (v.getD k 0) (w.getD (k + 2) 0 * 4294967296 + w.getD (k + 1) 0) (w.getD k 0) = g at *
    have ht:=nat_take (p:=p) (q:=r ++ t) (w:=w) (m:=v) (g:=g) lw lw' hv o1 (by rw [lv];exact hN') hb ver
    rw [lv] at ht
    have hvpos : 0 < val v:=by omega
    have hq : p.length < q.length:=by have:=hP.2.2.2.1;omega
    have hqM : q.length = M:=by have:=hP.2.2.2.1;omega
    have hset:=fun (d j : Nat) => lR_set' (w:=q) (i:=p.length) (d:=d) (j:=j) hq
    have hgw : IntKind.u32.wrap (g : Int) = (g : Int):=wrap_u32 (by omega)
    simp (disch:=first|exact dd|fail) only [go_sem,seval,u32s,s1,s2,s3,lv]
    refine callG [0] hg rfl (by simp (disch:=first|exact dd|fail) only [go_sem,seval]) ?_ ?_ ?_
    · simp (disch:=first|exact dd|fail) only [go_sem,seval,u32s,lv]
    · simp (disch:=first|exact dd|fail) only [go_sem,seval]
    simp (disch:=first|exact dd|fail) only [go_sem,seval,u32s,s1,s2,s3,lv]
    refine callG [0] ht rfl (by simp (disch:=first|exact dd|fail) only [go_sem,seval]) ?_ ?_ ?_
    · simp (disch:=first|exact dd|fail) only [go_sem,seval,u32s,lv]
    · simp (disch:=first|exact dd|fail) only [go_sem,seval]
    by_cases hneg : val w < g * val v
    · obtain ⟨b1,b2,b3⟩:=take_wrong lw lw' hv hneg o2
      have hd : decide (val w < g * val v) = true:=decide_eq_true hneg
      rw [lv] at b1 b2 b3
      generalize tkW (val w) (val v) g (k + 2 + 1) = w1 at *
      have hg0 : 0 < g:=by
        rcases Nat.eq_zero_or_pos g with h | h
        · subst h;omega
        · exact h
      have hw1 : IntKind.u64.wrap ((g : Int) - 1) = ((g - 1 : Nat) : Int):=by rw [wrap_u64 (by omega)];omega
      have hgw1 : IntKind.u32.wrap ((g - 1 : Nat) : Int) = ((g - 1 : Nat) : Int):=wrap_u32 (by omega)
      clear hneg o3
      simp (disch:=first|exact dd|fail) only [go_sem,seval,u32s,s1,s2,s3,lv,hd,hw1]
      refine AL.of (AdP w1 v) (fun s => v.length - s.1) (fun s => [(0, .sl 0 ver 0 (M + (k + 2))),(1,u32s v),(5, .int .i64 ((k + 2 : Nat) : Int)),(6, .sl 1 0 0 M),(7, .int .i64 (((p.length + 1 : Nat) : Int) - 1)),(8, .int .u64 ((g - 1 : Nat) : Int)),(9, .int .u64 s.2.1),(49,u32s v),(50, .int .i64 ((k + 2 : Nat) : Int)),(51, .int .i64 s.1)])
        (fun s => [(1, .row false 0 false 1 M (lR q)),(0, .row false ver false 1 N (lR (p ++ s.2.2 ++ (r ++ t))))]) (0,0,w1) (AdP.zero (by rw [lv];exact b1) b2) ?_ ?_ ?_ ?_
      · simp (disch:=first|exact dd|fail) only [go_sem,seval,u32s,lv]
      · simp (disch:=first|exact dd|fail) only [go_sem,seval,u32s]
        exact ⟨fun _ _ => trivial,fun _ _ => trivial⟩
      · intro x _;simp (disch:=first|exact dd|fail) only [go_sem,seval]
      rintro ⟨i,c,w'⟩ hA
      have hn:=hA.next hv
      have hf:=hA
      obtain ⟨h1,h2,h3,h4,h5,h6⟩:=hA
      simp only at h1 h2 h3 h4 h5 h6
      have gx:=h4.getD i
      have hget : lR (p ++ w' ++ (r ++ t)) (p.length + i) = .int .u32 ((w'.getD i 0 : Nat) : Int):=by rw [lR,win_get (by omega)]
      have hsetw:=fun (d j : Nat) => lR_set' (w:=p ++ w' ++ (r ++ t)) (i:=p.length + i) (d:=d) (j:=j) (by simp;omega)
      have hset2:=fun d : Nat => win_set (p:=p) (w:=w') (q:=r ++ t) (i:=i) (d:=d) (by omega)
      simp only [hset2] at hsetw
      have u1 : ((i : Int) + (((p.length + 1 : Nat) : Int) - 1)).toNat = p.length + i:=by omega
      by_cases hi : i = v.length
      · subst hi
        obtain ⟨f1,f2,f3⟩:=hf.fin (by rw [lv];exact b1)
        have hback:=put_back (w:=w) (w1:=w1) (g:=g) (m:=v) (f1.trans (by rw [lv];exact b1)) f2 (by rw [lv];exact b1) b2 hv (by rw [lv];exact b3) f3 o2
        obtain ⟨k1,k2,k3⟩:=hback
        have hnx:=hP.next (w1:=w'.set v.length ((w'.getD v.length 0 + c) % 4294967296)) rfl lw (by rw [f1,b1];omega) f2 hr hq (show g - 1 < 4294967296 by omega) k2 k3 hvpos
        have u2 : (((p.length + 1 : Nat) : Int) - 1 + ((k + 2 : Nat) : Int)).toNat = p.length + (k + 2):=by omega
        have uc : IntKind.u32.wrap (c : Int) = (c : Int):=wrap_u32 (by omega)
        have ux : IntKind.u32.wrap ((w'.getD (k + 2) 0 : Int) + (c : Int)) = (((w'.getD (k + 2) 0 + c) % 4294967296 : Nat) : Int):=by rw [wrap_u32'];omega
        rw [lv] at hget hsetw hnx
        have hsetq:=fun (j : Nat) => hset (g - 1) j
        clear hP b3 hf hn h5 h6 o2 f3 k2 k3 hset2 f2 b2 h4 hlt hlt'
        simp (disch:=first|exact dd|fail) only [go_sem,seval,u32s,s1,u2,hget,uc,ux,hgw1,lv]
        refine ⟨(p.length,_,_),⟨by show p.length ≤ M;omega,hnx⟩,Nat.lt_succ_self _, ?_, ?_⟩
        · simp (disch:=first|exact dd|fail) only [go_sem,seval,u32s,lv]
          try exact LeV_int (by omega)
        · simp (disch:=first|exact dd|fail) only [go_sem,seval,u32s]
          exact ⟨fun i hi => Le.of_eq (hsetq i),fun i hi => Le.of_eq (by rw [hassoc];exact hsetw _ i)⟩
      · have hi' : i < v.length:=by omega
        have hn':=hn hi'
        have gy:=hv.getD i
        have v1 : IntKind.u32.wrap ((c : Int) + ((w'.getD i 0 : Int) + (v.getD i 0 : Int))) = (((c + (w'.getD i 0 + v.getD i 0)) % 4294967296 : Nat) : Int):=by rw [wrap_u32'];omega
        have v2 : ((c : Int) + ((w'.getD i 0 : Int) + (v.getD i 0 : Int))) / 4294967296 = (((c + (w'.getD i 0 + v.getD i 0)) / 4294967296 : Nat) : Int):=by omega
        clear hP b3 hf hn h5 h6 o2 hset2 b2 h4 hlt hlt' hset
        simp (disch:=first|exact dd|fail) only [go_sem,seval,u32s,u1,hget,v1,v2,lv]
        refine ⟨_,hn',by show k + 2 - (i + 1) < k + 2 - i;omega, ?_, ?_⟩
        · simp (disch:=first|exact dd|fail) only [go_sem,seval,u32s,lv]
          try exact LeV_int (by omega)
        · simp (disch:=first|exact dd|fail) only [go_sem,seval,u32s]
          exact ⟨fun _ _ => trivial,fun i hi => Le.of_eq (hsetw _ i)⟩
    · obtain ⟨b1,b2,b3,b4⟩:=take_right lw lw' hneg o3
      have hd : decide (val w < g * val v) = false:=decide_eq_false hneg
      rw [lv] at b1 b2 b4
      generalize tkW (val w) (val v) g (k + 2 + 1) = w1 at *
      have hnx:=hP.next rfl lw b1 b2 hr hq o1 b3 b4 hvpos
      clear hP b3 b4 o2 o3 hneg hlt hlt'
      simp (disch:=first|exact dd|fail) only [go_sem,seval,u32s,s1,s2,s3,lv,hd,hgw]
      refine ⟨(p.length,_,_),⟨by show p.length ≤ M;omega,hnx⟩,Nat.lt_succ_self _, ?_, ?_⟩
      · simp (disch:=first|exact dd|fail) only [go_sem,seval,u32s,lv]
        try exact LeV_int (by omega)
      · simp (disch:=first|exact dd|fail) only [go_sem,seval,u32s]
        exact ⟨fun i hi => Le.of_eq (hset _ i),fun i hi => Le.of_eq (by rw [hassoc])⟩
section
variable (z : Int) (h : Hp) (ρ : Nat → Option Nat) (r : Nat → Nat)
theorem flat_zD : flat (zD z) = false:=Eq.trans rfl rfl
theorem imp_zD : imp ρ h (zD z) = zD z:=Eq.trans rfl rfl
theorem asAgg_zD : asAgg (zD z) = some [u32s (limbs z.natAbs), .bool (decide (z < 0))]:=Eq.trans rfl rfl
end
attribute [go_sem] flat_zD imp_zD asAgg_zD
theorem nbit0 : nbit 0 = 0:=Eq.trans rfl rfl
def mkZ (b : Bool) (n : Nat) : Int:=if b = true then -(n : Int) else n
theorem mkZ_abs (b : Bool) (n : Nat) : (mkZ b n).natAbs = n:=by
  unfold mkZ;split <;> omega
theorem mkZ_neg (b : Bool) (n : Nat) : decide (mkZ b n < 0) = (b && decide (0 < n)):=by
  unfold mkZ
  cases b with
  | true => simp
  | false => simp
theorem mkZ_self (z : Int) : mkZ (decide (z < 0)) z.natAbs = z:=by
  unfold mkZ
  by_cases h : z < 0
  · rw [decide_eq_true h,if_pos rfl];omega
  · rw [decide_eq_false h,if_neg (by simp)];omega
theorem zD_mk (b : Bool) (n : Nat) : zD (mkZ b n) = .agg [u32s (limbs n), .bool (b && decide (0 < n))]:=by
  rw [zD,mkZ_abs,mkZ_neg]
theorem nbit_pos {n : Nat} (h : 0 < n) : 0 < nbit n:=by
  unfold nbit;rw [if_neg (by omega)];omega
theorem nbit_nb (n : Nat) : nbit n ≤ 32 * nb n:=by
  have:=(nb_lt (n:=n) (k:=nb n)).1 (Nat.le_refl _)
  exact nbit_lt.2 (by rw [Nat.pow_mul];exact this)
theorem whole_From (b : Bool) {n : Nat} (hn : nb n < 1073741824) : C E 144 [.bool b,natD n] (zD (mkZ b n)):=by
  refine CG_intro Tryz.func144 rfl (by kernel_rfl) rfl (by kernel_rfl) (by kernel_rfl) rfl ?_
  rw [zD_mk]
  have hl:=nbit_nb n
  cases b with
  | true =>
    simp (disch:=first|exact dd|fail) only [go_sem,seval,natD_u32s]
    refine callCl (nat_Bits hn) (LesV.refl _) rfl ?_
    by_cases h0 : 0 < n
    · have:=nbit_pos h0
      have e : decide (0 < n) = true:=decide_eq_true h0
      simp (disch:=first|exact dd|fail) only [go_sem,seval,e]
    · obtain rfl : n = 0:=by omega
      have e : ((nbit 0 : Nat) : Int) = 0:=rfl
      have e2 : decide (0 < 0) = false:=rfl
      simp (disch:=first|exact dd|fail) only [go_sem,seval,e,e2]
  | false =>
    simp (disch:=first|exact dd|fail) only [go_sem,seval,natD_u32s]
theorem whole_Abs (z : Int) : C E 136 [zD z] (natD z.natAbs):=by
  refine CG_intro Tryz.func136 rfl (by kernel_rfl) rfl (by kernel_rfl) (by kernel_rfl) rfl ?_
  simp (disch:=first|exact dd|fail) only [go_sem,seval,natD_u32s]
theorem whole_Sign {z : Int} (hz : nb z.natAbs < 1073741824) : C E 140 [zD z] (.int .i64 (sgI z 0)):=by
  refine CG_intro Tryz.func140 rfl (by kernel_rfl) rfl (by kernel_rfl) (by kernel_rfl) rfl ?_
  have hl:=nbit_nb z.natAbs
  by_cases h : z < 0
  · have e : decide (z < 0) = true:=decide_eq_true h
    simp (disch:=first|exact dd|fail) only [go_sem,seval,e]
    exact LeV.of_eq (by rw [sgI_lt h])
  · have e : decide (z < 0) = false:=decide_eq_false h
    simp (disch:=first|exact dd|fail) only [go_sem,seval,e]
    refine callC (nat_Bits hz) ?_ rfl ?_
    · simp (disch:=first|exact dd|fail) only [go_sem,seval,natD_u32s]
      try exact LesV.refl _
    by_cases h0 : z = 0
    · subst h0
      simp (disch:=first|exact dd|fail) only [go_sem,seval,nbit0,Int.natAbs_zero]
      exact LeV.of_eq rfl
    · have:=nbit_pos (n:=z.natAbs) (by omega)
      simp (disch:=first|exact dd|fail) only [go_sem,seval]
      exact LeV.of_eq (by rw [sgI_gt (by omega)])
def isVarB (h : Hp) (b : Nat) : Bool:=match lookB h b with
  | some (.var _ _ _ _) => true
  | _ => false
theorem isVarB_spec {h : Hp} {b : Nat} (e : isVarB h b = true) : ∃ ag sz d ty,lookB h b = some (.var ag sz d ty):=by
  unfold isVarB at e
  split at e
  · rename_i ag sz d ty hl;exact ⟨ag,sz,d,ty,hl⟩
  · cases e
def stab (E : Ctx) (s : St) (x : Oper) : Bool:=x.guard.isNone && x.op.operands.toList.all fun z => (blks (ev E s z)).all fun b => isVarB s.h b
def tame (E : Ctx) (y : Op) : Bool:=match kd E y with
  | .pure | .call | .new | .app => true
  | _ => false
section
variable {E : Ctx} {B : Base} {s : St} {ops : Array Oper}
theorem tame_var {k : Kd} (hk : (match k with | .pure | .call | .new | .app => true | _ => false) = true) {h h' : Hp} {nx : Nat} (hh : HRel k h nx h') {b : Nat} (hb : b < nx) {ag : Bool} {sz ty : Nat} {d : D} (hl : lookB h b = some (.var ag sz d ty)) : lookB h' b = some (.var ag sz d ty):=by
  cases k <;> simp only [HRel] at hh <;> try cases hk
  case pure => rw [hh];exact hl
  case call =>
    rcases (hh b hb).cases with ⟨h1,_⟩ | ⟨ag',sz',d',ty',h1,h2⟩ | ⟨fz,fz',ver,ag',sz',n,n',f,ty',h1,h2⟩
    · rw [h1] at hl;cases hl
    · rw [h1] at hl;cases hl;exact h2
    · rw [h1] at hl;cases hl
  case new => rw [← hh b (by omega)];exact hl
  case app => exact hh b ag sz d _ (by omega) hl
theorem stab_spec {x : Oper} (h : stab E s x = true) : x.guard = none ∧ ∀ z ∈ x.op.operands,∀ b ∈ blks (ev E s z),∃ ag sz d ty,lookB s.h b = some (.var ag sz d ty):=by
  unfold stab at h
  simp only [Bool.and_eq_true,Option.isNone_iff_eq_none] at h
  exact ⟨h.1,fun z hz b hb => isVarB_spec (List.all_eq_true.1 (List.all_eq_true.1 h.2 z (Array.mem_toList_iff.2 hz)) b hb)⟩
theorem stab_stays {x : Oper} {y : Op} (hy : tame E y = true) (hs : stab E s x = true) (hB : BOK E B) (hL : Live B s) {h : Hp} (hh : HRel (kd E y) s.h s.nx h) {e' : Nat → D} {nx : Nat}
    (ha : ∀ z ∈ x.op.operands,ev E s z = ev E ⟨e',h,nx⟩ z) : pv E ⟨e',h,nx⟩ x.op = pv E s x.op ∧ stab E ⟨e',h,nx⟩ x = true:=by
  obtain ⟨hg,hv⟩:=stab_spec hs
  have hvar : ∀ z ∈ x.op.operands,∀ b ∈ blks (ev E s z),∃ ag sz d ty,lookB s.h b = some (.var ag sz d ty) ∧ lookB h b = some (.var ag sz d ty):=fun z hz b hb => by
    obtain ⟨ag,sz,d,ty,hl⟩:=hv z hz b hb
    exact ⟨ag,sz,d,ty,hl,tame_var hy hh (ev_blks hB hL z b hb) hl⟩
  refine ⟨(pv_congr ha fun z hz b hb => ?_).symm, ?_⟩
  · obtain ⟨ag,sz,d,ty,h1,h2⟩:=hvar z hz b hb
    exact Same.of_eq (h1.trans h2.symm)
  · unfold stab
    simp only [Bool.and_eq_true,Option.isNone_iff_eq_none]
    refine ⟨hg,List.all_eq_true.2 fun z hz => List.all_eq_true.2 fun b hb => ?_⟩
    rw [Array.mem_toList_iff] at hz
    rw [← ha z hz] at hb
    obtain ⟨ag,sz,d,ty,h1,h2⟩:=hvar z hz b hb
    simp only [isVarB,h2]
theorem pvG_none {x : Oper} (h : x.guard = none) (s : St) : pvG E ops x s = pv E s x.op:=by unfold pvG;rw [h]
theorem commS {x y : Oper} (hap : x.apart ops y = true) (hp : isP E x.op = true) (hy : tame E y.op = true) (hst : stab E s x = true) (hB : BOK E B) (hL : Live B s) {K : St → Prop} (h : AT E ops x (AT E ops y K) s) : AT E ops y (fun s' => stab E s' x = true ∧ AT E ops x K s') s:=by
  obtain ⟨a1,a2,a3⟩:=Oper.apart_spec hap
  have hgn:=(stab_spec hst).1
  obtain ⟨dx,hpx,hyy⟩:=(AT_pure hp _).1 h
  have hs : ∀ (h1 : Hp) (nx : Nat) (dy : D),HRel (kd E y.op) s.h s.nx h1 → pvG E ops x ((⟨s.e,h1,nx⟩ : St).put y.dst dy) = some dx ∧ stab E ((⟨s.e,h1,nx⟩ : St).put y.dst dy) x = true:=fun h1 nx dy hh => by
    rw [← hpx,pvG_none hgn,pvG_none hgn]
    have : ((⟨s.e,h1,nx⟩ : St).put y.dst dy) = ⟨((⟨s.e,h1,nx⟩ : St).put y.dst dy).e,h1,nx⟩:=by cases y.dst <;> rfl
    rw [this]
    have ag:=agreeT_put (E:=E) (o:=x) (ops:=ops) (dst:=y.dst) a3 dy (h:=s.h) (h':=h1) (nx:=s.nx) (nx':=nx) (e:=s.e)
    exact stab_stays hy hst hB hL hh fun z hz => by
      have:=ag.1 z hz
      cases z <;> exact this
  have hb : (s.put x.dst dx).h = s.h ∧ (s.put x.dst dx).nx = s.nx:=⟨St.put_h ..,St.put_nx ..⟩
  have ag : AgreeT E ops y (s.put x.dst dx) s.e:=by
    have:=agreeT_put (E:=E) (o:=y) (ops:=ops) (dst:=x.dst) a1 dx (h:=s.h) (h':=s.h) (nx:=s.nx) (nx':=s.nx) (e:=s.e)
    refine ⟨fun z hz => ?_,fun g want t hg ht => (this.2 g want t hg ht).symm⟩
    have:=this.1 z hz
    cases z <;> exact this.symm
  rcases AT_det hyy with ⟨dy,h1,nx,h2,h3,h4⟩ | ⟨p,h1,h2,h3⟩
  · rw [hb.1,hb.2] at h2
    have:=h4 s.e (fun s' => stab E s' x = true ∧ AT E ops x K s') ag ⟨(hs h1 nx dy h2).2,(AT_pure hp _).2 ⟨dx,(hs h1 nx dy h2).1,by
      rw [← put_swap (h':=s.h) (nx':=s.nx) (hne:=a2)]
      exact h3⟩⟩
    rw [hb.1,hb.2] at this
    exact this
  · have:=h3 s.e (fun s' => stab E s' x = true ∧ AT E ops x K s') ag fun b hbp => ⟨by
        rw [hb.1,hb.2];exact (hs s.h s.nx (.bool b) (HRel.refl _ _ _)).2,(AT_pure hp _).2 ⟨dx,by
      rw [hb.1,hb.2]
      exact (hs s.h s.nx (.bool b) (HRel.refl _ _ _)).1,by
      rw [hb.1,hb.2]
      rw [← put_swap (h':=s.h) (nx':=s.nx) (hne:=a2)]
      have:=h2 b hbp
      rw [show (s.put x.dst dx) = ⟨(s.put x.dst dx).e,s.h,s.nx⟩ by cases x.dst <;> rfl] at this
      exact this⟩⟩
    rw [hb.1,hb.2] at this
    exact this
def freeS (E : Ctx) (ops : Array Oper) (ms : Array Nat) (U : List Nat) (i : Nat) : Bool:=match ops[i]? with
  | none => false
  | some oi => isP E oi.op && U.all fun j => j == i || (ms.getD j 0).testBit i || match ops[j]? with
    | some oj => oi.apart ops oj && tame E oj.op
    | none => true
theorem AAny_takeS (hB : BOK E B) (hd : ops.all (dstOk B.N) = true) {ms : Array Nat} (hm : maskOk ops ms = true) {i : Nat} {oi : Oper} (hoi : ops[i]? = some oi) {K : St → Prop} : ∀ (n : Nat) (U : List Nat) (s : St),
    i ∈ readyA ops U → freeS E ops ms U i = true → stab E s oi = true → (∀ j k,j ∉ U → (ms.getD j 0).testBit k = true → k ∉ U) → Live B s → AI E ops i (AAny E ops n (without U i) K) s → AAny E ops (n + 1) U K s
  | 0,U,s,hi,hf,hst,hdn,hL,h => by
    refine ⟨fun e => (by rw [e] at hi;cases hi),fun j hj => ?_⟩
    by_cases hji : j = i
    · subst hji;exact h
    · rw [AI_some hoi] at h
      obtain ⟨s',_,h1,_⟩:=AT_live hB hL (dst_of hd hoi) h
      have:=mem_without.2 ⟨(mem_readyA.1 hj).1,hji⟩
      rw [h1] at this
      cases this
  | n + 1,U,s,hi,hf,hst,hdn,hL,h => by
    refine ⟨fun e => (by rw [e] at hi;cases hi),fun j hj => ?_⟩
    by_cases hji : j = i
    · subst hji;exact h
    · obtain ⟨hiU,oi',hoi',_⟩:=mem_readyA.1 hi
      obtain ⟨hjU,oj,hoj,_⟩:=mem_readyA.1 hj
      have h1 : AI E ops i (AI E ops j (AAny E ops n (without (without U i) j) K)) s:=
        AI_mono hB hd hL (fun s' _ hx => hx.2 j (readyA_mono hj hji)) h
      have hok : isP E oi.op = true ∧ oi.apart ops oj = true ∧ tame E oj.op = true:=by
        have:=hf
        unfold freeS at this
        rw [hoi] at this
        simp only [Bool.and_eq_true] at this
        refine ⟨this.1, ?_⟩
        have:=List.all_eq_true.1 this.2 j hjU
        rw [hoj] at this
        simp only [Bool.or_eq_true,beq_iff_eq,Bool.and_eq_true] at this
        rcases this with (h2 | h2) | h2
        · exact (hji h2).elim
        · exact (mask_down hm hdn hj h2 hiU).elim
        · exact h2
      have h2 : AI E ops j (fun s' => stab E s' oi = true ∧ AI E ops i (AAny E ops n (without (without U i) j) K) s') s:=by
        rw [AI_some hoi] at h1
        rw [AI_some hoj]
        have e1 : ∀ s',AI E ops j (AAny E ops n (without (without U i) j) K) s' = AT E ops oj (AAny E ops n (without (without U i) j) K) s':=fun s' => AI_some hoj _ _
        have e2 : (AI E ops i (AAny E ops n (without (without U i) j) K)) = AT E ops oi (AAny E ops n (without (without U i) j) K):=funext fun s' => AI_some hoi _ _
        rw [show (AI E ops j (AAny E ops n (without (without U i) j) K)) = AT E ops oj (AAny E ops n (without (without U i) j) K) from funext e1] at h1
        rw [e2]
        exact commS hok.2.1 hok.1 hok.2.2 hst hB hL h1
      refine AI_mono hB hd hL (fun s' hL' hx => ?_) h2
      obtain ⟨hst',hx⟩:=hx
      rw [without_comm] at hx
      refine AAny_takeS hB hd hm hoi n (without U j) s' (readyA_mono hi (Ne.symm hji)) ?_ hst' (fun j' k hj' hk hkU => ?_) hL' hx
      · unfold freeS at hf ⊢
        rw [hoi] at hf ⊢
        simp only [Bool.and_eq_true] at hf ⊢
        refine ⟨hf.1, ?_⟩
        have hf:=hf.2
        rw [List.all_eq_true] at hf ⊢
        exact fun x hx => hf x (mem_without.1 hx).1
      · have hkU':=(mem_without.1 hkU).1
        by_cases hjj : j' = j
        · subst hjj;exact mask_down hm hdn hj hk hkU'
        · exact hdn j' k (fun hm => hj' (mem_without.2 ⟨hm,hjj⟩)) hk hkU'
end
def AAnyS (E : Ctx) (ops : Array Oper) (ms : Array Nat) : Nat → List Nat → (St → Prop) → St → Prop
  | 0,U,K,s => U = [] ∧ K s
  | n + 1,U,K,s => (readyA ops U ≠ [] ∧ ∀ i ∈ readyA ops U,AI E ops i (AAnyS E ops ms n (without U i) K) s) ∨
      ∃ i oi,ops[i]? = some oi ∧ i ∈ readyA ops U ∧ (freeOk E ops ms U i = true ∨ freeS E ops ms U i = true ∧ stab E s oi = true) ∧ AI E ops i (AAnyS E ops ms n (without U i) K) s
theorem AAnyS_sound {E : Ctx} {B : Base} {ops : Array Oper} (hB : BOK E B) (hd : ops.all (dstOk B.N) = true) {ms : Array Nat} (hm : maskOk ops ms = true) {K : St → Prop} : ∀ (n : Nat) (U : List Nat) (s : St),
    (∀ j k,j ∉ U → (ms.getD j 0).testBit k = true → k ∉ U) → Live B s → AAnyS E ops ms n U K s → AAny E ops n U K s
  | 0,U,s,_,_,h => h
  | n + 1,U,s,hdn,hL,h => by
    have hdn' : ∀ i ∈ readyA ops U,∀ j k,j ∉ without U i → (ms.getD j 0).testBit k = true → k ∉ without U i:=fun i hi j k hj hk hkU => by
      have hkU':=(mem_without.1 hkU).1
      by_cases hjj : j = i
      · subst hjj;exact mask_down hm hdn hi hk hkU'
      · exact hdn j k (fun hm => hj (mem_without.2 ⟨hm,hjj⟩)) hk hkU'
    rcases h with ⟨h0,h⟩ | ⟨i,oi,ho,hi,hf,h⟩
    · exact ⟨fun e => (h0 e).elim,fun i hi => AI_mono hB hd hL (fun s' hL' hx => AAnyS_sound hB hd hm n _ s' (hdn' i hi) hL' hx) (h i hi)⟩
    · have h':=AI_mono hB hd hL (fun s' hL' hx => AAnyS_sound hB hd hm n _ s' (hdn' i hi) hL' hx) h
      rcases hf with hf | ⟨hf,hst⟩
      · exact AAny_take hB hd hm n U s hi hf hdn hL h'
      · exact AAny_takeS hB hd hm ho n U s hi hf hst hdn hL h'
theorem AReg_any (n : Nat) (U : List Nat) {E : Ctx} {ops : Array Oper} {K : St → Prop} {s : St} (hn : ops.size = n) (hU : List.range n = U) (hm : maskOk ops (masks ops) = true) (h : AAnyS E ops (masks ops) n U K s) : AReg E ops true K s:=by
  unfold AReg
  rw [if_pos rfl]
  intro B hB hd hb hL
  rw [hn,hU]
  refine AAnyS_sound hB hd hm n U s (fun j k hj hk hkU => ?_) hL h
  subst hU hn
  rw [List.mem_range] at hj
  rw [Array.getD_eq_getD_getElem?,Array.getElem?_eq_none (Nat.le_trans (masks_size ops) (by omega))] at hk
  simp at hk
theorem AReg_anyL (n : Nat) (U : List Nat) {E : Ctx} {ops : Array Oper} {K : St → Prop} {s : St} (hn : ops.size = n) (hU : List.range n = U) (hm : maskOk ops (masks ops) = true) (h : AAnyS (E.lim noG) ops (masks ops) n U K s) : AReg E ops true K s:=by
  unfold AReg
  rw [if_pos rfl]
  intro B hB hd hb hL
  rw [hn,hU]
  refine shut_AAny (gs:=noG) (fun g hg => by cases hg) hB hd n U s hL (AAnyS_sound (E:=E.lim noG) hB hd hm n U s (fun j k hj hk hkU => ?_) hL h)
  subst hU hn
  rw [List.mem_range] at hj
  rw [Array.getD_eq_getD_getElem?,Array.getElem?_eq_none (Nat.le_trans (masks_size ops) (by omega))] at hk
  simp at hk
theorem AAny_step (R : List (Nat × List Nat)) {E : Ctx} {ops : Array Oper} {ms : Array Nat} {n : Nat} {U : List Nat} {K : St → Prop} {s : St} (h : ((readyA ops U).map fun i => (i,without U i)) = R) (hne : R.isEmpty = false) (hs : ∀ p,p ∈ R → AI E ops p.1 (AAnyS E ops ms n p.2 K) s) : AAnyS E ops ms (n + 1) U K s:=by
  refine .inl ⟨fun e => ?_,fun i hi => ?_⟩
  · rw [e] at h;subst h;simp at hne
  · exact hs (i,without U i) (by rw [← h];exact List.mem_map_of_mem hi)
theorem AAny_free (i : Nat) (V : List Nat) {E : Ctx} {ops : Array Oper} {ms : Array Nat} {n : Nat} {U : List Nat} {K : St → Prop} {s : St} (h : ((readyA ops U).contains i && freeOk E ops ms U i && decide (without U i = V)) = true) {oi : Oper} (ho : ops[i]? = some oi) (hs : AI E ops i (AAnyS E ops ms n V K) s) : AAnyS E ops ms (n + 1) U K s:=by
  simp only [Bool.and_eq_true,decide_eq_true_eq] at h
  obtain ⟨⟨h1,h2⟩,rfl⟩:=h
  exact .inr ⟨i,oi,ho,by simpa using h1, .inl h2,hs⟩
theorem AAny_stab (i : Nat) (V : List Nat) {E : Ctx} {ops : Array Oper} {ms : Array Nat} {n : Nat} {U : List Nat} {K : St → Prop} {s : St} (h : ((readyA ops U).contains i && freeS E ops ms U i && decide (without U i = V)) = true) {oi : Oper} (ho : ops[i]? = some oi) (hst : stab E s oi = true) (hs : AI E ops i (AAnyS E ops ms n V K) s) : AAnyS E ops ms (n + 1) U K s:=by
  simp only [Bool.and_eq_true,decide_eq_true_eq] at h
  obtain ⟨⟨h1,h2⟩,rfl⟩:=h
  exact .inr ⟨i,oi,ho,by simpa using h1, .inr ⟨h2,hst⟩,hs⟩
theorem AAny_end {E : Ctx} {ops : Array Oper} {ms : Array Nat} {K : St → Prop} {s : St} (h : K s) : AAnyS E ops ms 0 [] K s:=⟨rfl,h⟩
theorem forall_one {α : Type} {P : α → Prop} {a : α} (h : P a) : ∀ p,p ∈ [a] → P p:=fun p hp => by
  rw [List.mem_singleton] at hp;rw [hp];exact h
theorem forall_more {α : Type} {P : α → Prop} {a b : α} {r : List α} (h : P a) (h' : ∀ p,p ∈ b :: r → P p) : ∀ p,p ∈ a :: b :: r → P p:=fun p hp => by
  rcases List.mem_cons.1 hp with e | hp
  · rw [e];exact h
  · exact h' p hp
theorem AI_at {E : Ctx} {ops : Array Oper} {i : Nat} {K : St → Prop} {s : St} (o : Oper) (ho : ops[i]? = some o) (h : AT E ops o K s) : AI E ops i K s:=by unfold AI;rw [ho];exact h
theorem AReg_tail (L : List (Nat × D)) (H : Hp) (nx : Nat) {E : Ctx} {ops : Array Oper} {K : St → Prop} {s : St} (h : (∀ e',EnvEq e' L → K ⟨e',H,nx⟩) → AReg E ops true K s) (tail : ∀ e',EnvEq e' L → K ⟨e',H,nx⟩) : AReg E ops true K s:=h tail
end Go.Proofs.YtakaojkfipnfcaaGreatDoor.Lv
