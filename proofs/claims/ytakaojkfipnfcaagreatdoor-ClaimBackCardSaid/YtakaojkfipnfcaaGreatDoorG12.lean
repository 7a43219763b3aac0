/- The program's numbers: Clone, Low. The program's numbers: short. The program's numbers: Sub. Limbs multiplied, and shifted: the plain laws. The abstract machine: what a function made and left to its caller may be taken as memory that stays. The program's numbers: Shl, Shr. The program's numbers: Shr. Division by limbs: the rounds, plain laws. -/
import Derived.Test.YtakaojkfipnfcaaGreatDoorG11
import Derived.Test.YtakaojkfipnfcaaGreatDoorG10
set_option linter.unusedVariables false
set_option linter.unusedSimpArgs false
set_option maxRecDepth 100000
set_option maxHeartbeats 4000000
namespace Go.Proofs.YtakaojkfipnfcaaGreatDoor.Lv
open Go Go.RowKit
theorem clone_u32 {l : List Nat} (h0 : l ≠ []) (hn : l.length < 1073741824) : CG E 148 [u32s l] [] (.sl 0 1 0 l.length) [(0, .row false 1 false 1 l.length (lR l))]:=by
  refine CG_intro Tryz.func148 rfl (by kernel_rfl) rfl (by kernel_rfl) (by kernel_rfl) rfl ?_
  have hp:=List.length_pos_iff.2 h0
  simp (disch:=first|exact dd|fail) only [go_sem,seval,u32s]
  intro b hb
  obtain rfl : b = false:=by
    cases b with
    | false => rfl
    | true => have:=hb rfl;omega
  rw [KE_eq]
  simp (disch:=first|exact dd|fail) only [go_sem,seval,u32s]
  refine ⟨.inl trivial, .inr trivial,by omega,by omega, ?_⟩
  exact fun i hi => Le.refl _
theorem nat_Low {n : Nat} (hn : nb n < 1073741824) : C E 173 [natD n] (.int .u64 ((n % 18446744073709551616 : Nat) : Int)):=by
  refine CG_intro Tryz.func173 rfl (by kernel_rfl) rfl (by kernel_rfl) (by kernel_rfl) rfl ?_
  unfold nb at hn
  have hv:=val_limbs n
  have hl:=limbs_low n
  have g0:=hl.getD 0
  have g1:=hl.getD 1
  have hm : ∀ k : Nat,min (k : Int) 2 = ((min k 2 : Nat) : Int):=fun k => by omega
  have hend : val ((limbs n).take (min (limbs n).length 2)) = n % 18446744073709551616:=by
    by_cases h2 : 2 ≤ (limbs n).length
    · rw [show min (limbs n).length 2 = 2 by omega]
      have h3:=val_cut (limbs n) 2 h2
      have h4:=val_ltB (lows_take hl 2)
      rw [List.length_take,Nat.min_eq_left h2,show (4294967296 : Nat) ^ 2 = 18446744073709551616 from rfl] at h4
      rw [hv,show (4294967296 : Nat) ^ 2 = 18446744073709551616 from rfl] at h3
      generalize val ((limbs n).take 2) = a at *
      generalize val ((limbs n).drop 2) = b at *
      clear hv hl g0 g1
      omega
    · rw [show min (limbs n).length 2 = (limbs n).length by omega,List.take_length,hv,Nat.mod_eq_of_lt]
      have h3:=(nb_lt (n:=n) (k:=1)).1 (by unfold nb;omega)
      rw [Nat.pow_one] at h3
      omega
  rw [← hend]
  have s0:=val_take_succ (limbs n) 0
  have s1:=val_take_succ (limbs n) 1
  rw [List.take_zero,Nat.pow_zero,Nat.one_mul,Nat.zero_add] at s0
  simp only [val,Nat.zero_add] at s0
  rw [s0,Nat.pow_one] at s1
  clear hend hv hl
  simp (disch:=first|exact dd|fail) only [go_sem,seval,natD,u32s,hm]
  generalize limbs n = l at *
  refine AL.of (fun i : Nat => i ≤ min l.length 2) (fun i => min l.length 2 - i)
    (fun i => [(1, .ad 0 0),(3, .int .u64 (val (l.take i))),(8, .int .i64 ((min l.length 2 : Nat) : Int)),(9, .int .i64 i)]) (fun _ => [(0, .var true 1 (.agg [u32s l]))]) 0 (by omega) ?_ ?_ ?_ ?_
  · simp (disch:=first|exact dd|fail) only [go_sem,seval,u32s]
    exact LeV.of_eq (by rw [show val [] = 0 from rfl];rfl)
  · simp (disch:=first|exact dd|fail) only [go_sem,seval,u32s]
  · intro x _;simp (disch:=first|exact dd|fail) only [go_sem,seval]
  intro i hi
  by_cases hil : i = min l.length 2
  · subst hil
    simp (disch:=first|exact dd|fail) only [go_sem,seval]
  have hi' : i < min l.length 2:=by omega
  rcases (show i = 0 ∨ i = 1 by omega) with rfl | rfl
  · have e3 : bits .u64 .or 0 (((l.getD 0 0 : Nat)) : Int) = ((l.getD 0 0 : Nat) : Int):=by
      have:=bits_or 0 (l.getD 0 0) (by omega) (by omega)
      simpa using this
    have z : ((val (l.take 0) : Nat) : Int) = 0:=rfl
    have hlen : 1 ≤ min l.length 2:=by omega
    clear s1
    generalize hx : l.getD 0 0 = x at *
    simp (disch:=first|exact dd|fail) only [go_sem,seval,u32s,z,hx,Int.mul_one,e3,List.take_zero,show val [] = 0 from rfl]
    refine ⟨1,hlen,by show min l.length 2 - 1 < min l.length 2 - 0;omega, ?_, ?_⟩
    · simp (disch:=first|exact dd|fail) only [go_sem,seval,s0]
    · simp (disch:=first|exact dd|fail) only [go_sem,seval,u32s]
  · have e3 : bits .u64 .or ((l.getD 0 0 : Nat) : Int) (((l.getD 1 0 : Nat) : Int) * 4294967296) = ((l.getD 0 0 + 4294967296 * l.getD 1 0 : Nat) : Int):=by
      have h1:=bits_or (l.getD 0 0) (l.getD 1 0 * 4294967296) (by omega) (by omega)
      have h2:=or_add 32 (l.getD 1 0) (l.getD 0 0) (by omega)
      rw [Nat.mul_comm] at h2
      rw [h2,Int.natCast_mul] at h1
      rw [Nat.mul_comm 4294967296]
      exact h1
    have hlen : 2 ≤ min l.length 2:=by omega
    generalize hx : l.getD 0 0 = x at *
    generalize hy : l.getD 1 0 = y at *
    simp (disch:=first|exact dd|fail) only [go_sem,seval,u32s,s0,hy,e3]
    refine ⟨2,hlen,by show min l.length 2 - 2 < min l.length 2 - 1;omega, ?_, ?_⟩
    · simp (disch:=first|exact dd|fail) only [go_sem,seval,s1]
    · simp (disch:=first|exact dd|fail) only [go_sem,seval,u32s]
def sdiv (q : Nat) : List Nat → List Nat × Nat
  | [] => ([],0)
  | x :: r => (((sdiv q r).2 * 4294967296 + x) / q :: (sdiv q r).1,((sdiv q r).2 * 4294967296 + x) % q)
theorem sdiv_len (q : Nat) : ∀ l,(sdiv q l).1.length = l.length
  | [] => rfl
  | x :: r => by rw [sdiv,List.length_cons,sdiv_len q r,List.length_cons]
theorem sdiv_rem {q : Nat} (hq : 0 < q) : ∀ l,(sdiv q l).2 < q
  | [] => hq
  | x :: r => Nat.mod_lt _ hq
theorem sdiv_low {q : Nat} (hq : 0 < q) : ∀ {l : List Nat},lows l → lows (sdiv q l).1
  | [],_ => fun x hx => by cases hx
  | x :: r,h => by
    obtain ⟨h1,h2⟩:=h.cons
    intro y hy
    rw [sdiv] at hy
    rcases List.mem_cons.1 hy with rfl | hy
    · have h3:=sdiv_rem hq r
      rw [Nat.div_lt_iff_lt_mul hq]
      have : ((sdiv q r).2 + 1) * 4294967296 ≤ q * 4294967296:=Nat.mul_le_mul_right _ h3
      rw [Nat.mul_comm 4294967296]
      omega
    · exact sdiv_low hq h2 y hy
theorem sdiv_val {q : Nat} (hq : 0 < q) : ∀ l,val l = q * val (sdiv q l).1 + (sdiv q l).2
  | [] => by simp [val,sdiv]
  | x :: r => by
    have ih:=sdiv_val hq r
    have h:=Nat.div_add_mod ((sdiv q r).2 * 4294967296 + x) q
    simp only [val,sdiv]
    rw [Nat.mul_add,Nat.mul_left_comm,ih]
    generalize ((sdiv q r).2 * 4294967296 + x) / q = a at *
    generalize ((sdiv q r).2 * 4294967296 + x) % q = b at *
    generalize q * val (sdiv q r).1 = c at *
    generalize q * a = d at *
    omega
theorem backward_own (l : List Nat) (v : Nat) : CG E 178 [.sl 0 v 0 l.length] [(0, .row false v false 1 l.length (lR l))] (.fn 195 [.ad 1 0]) [(0, .row false v false 1 l.length (lR l)),(1, .var false 1 (.sl 0 v 0 l.length))]:=by
  refine CG_intro Tryz.func178 rfl (by kernel_rfl) rfl (by kernel_rfl) (by kernel_rfl) rfl ?_
  simp (disch:=first|exact dd|fail) only [go_sem,seval]
  try exact fun _ _ => trivial
def shRow (q : Nat) (l : List Nat) (k : Nat) : List Nat:=l.take k ++ (sdiv q (l.drop k)).1
theorem shRow_len (q : Nat) (l : List Nat) (k : Nat) : (shRow q l k).length = l.length:=by
  rw [shRow,List.length_append,List.length_take,sdiv_len,List.length_drop];omega
theorem lim_drop {l : List Nat} {k : Nat} (h : k < l.length) : l.drop k = l.getD k 0 :: l.drop (k + 1):=by
  rw [List.drop_eq_getElem_cons h,List.getD_eq_getElem?_getD,List.getElem?_eq_getElem h];rfl
theorem shRow_step (q : Nat) {l : List Nat} {k : Nat} (hk : k < l.length) : shRow q l k = (shRow q l (k + 1)).set k (((sdiv q (l.drop (k + 1))).2 * 4294967296 + l.getD k 0) / q):=by
  have hl : (l.take k).length = k:=by rw [List.length_take];omega
  rw [shRow,shRow,List.take_add_one,List.getElem?_eq_getElem hk,List.append_assoc,List.set_append_right _ _ (by omega),hl,Nat.sub_self,lim_drop hk]
  rfl
theorem shRow_at (q : Nat) {l : List Nat} {k : Nat} (hk : k < l.length) : (shRow q l (k + 1)).getD k 0 = l.getD k 0:=by
  rw [shRow,List.getD_eq_getElem?_getD,List.getElem?_append_left (by rw [List.length_take];omega),List.getElem?_take_of_lt (by omega),List.getD_eq_getElem?_getD]
theorem or_up (r x : Nat) (hr : r < 4294967296) (hx : x < 4294967296) : bits .u64 .or ((r : Int) * 4294967296) (x : Int) = ((r * 4294967296 + x : Nat) : Int):=by
  have h1:=bits_or (r * 4294967296) x (by omega) (by omega)
  have h2:=or_add 32 r x (by omega)
  rw [Nat.mul_comm] at h2
  rw [Nat.or_comm,h2,Int.natCast_mul,Nat.add_comm] at h1
  exact h1
theorem nat_short {l : List Nat} (hl : lows l) (hn : l.length < 1073741824) {q : Nat} (hq0 : 0 < q) (hq : q < 4294967296) (v : Nat) : CG E 149 [.sl 0 v 0 l.length, .int .u32 q] [(0, .row false v false 1 l.length (lR l))]
    (.int .u32 (sdiv q l).2) [(0, .row false v false 1 l.length (lR (sdiv q l).1))]:=by
  refine CG_intro Tryz.func149 rfl (by kernel_rfl) rfl (by kernel_rfl) (by kernel_rfl) rfl ?_
  simp (disch:=first|exact dd|fail) only [go_sem,seval]
  refine callG [0] (backward_own l v) rfl (by simp (disch:=first|exact dd|fail) only [go_sem,seval]) ?_ ?_ ?_
  · simp (disch:=first|exact dd|fail) only [go_sem,seval]
  · simp (disch:=first|exact dd|fail) only [go_sem,seval]
  simp (disch:=first|exact dd|fail) only [go_sem,seval]
  refine AB.of 195 5 (fun k : Nat => k ≤ l.length) (fun k => k) (fun _ => [(2, .ad 1 0),(3, .ad 2 0),(5, .ad 3 0),(9, .fn 195 [.ad 5 0])])
    (fun k => [(5, .var false 1 (.sl 0 v 0 l.length)),(3, .var false 1 (.int .u64 (((sdiv q (l.drop k)).2 : Nat) : Int))),(2, .var false 1 (.int .u32 q)),(1, .var false 1 (.sl 0 v 0 l.length)),(0, .row false v false 1 l.length (lR (shRow q l k)))]) l.length bw_u32 (Nat.le_refl _) ?_ ?_ ?_ (y:=.sl 0 v 0 l.length) ?_ ?_ (by omega) ?_ ?_ ?_
  · simp (disch:=first|exact dd|fail) only [go_sem,seval]
  · have e0 : (sdiv q (l.drop l.length)).2 = 0:=by rw [List.drop_length];rfl
    have e1 : shRow q l l.length = l:=by rw [shRow,List.drop_length,List.take_length];exact List.append_nil l
    rw [e0,e1]
    simp (disch:=first|exact dd|fail) only [go_sem,seval]
    try exact fun _ _ => trivial
  · simp (disch:=first|exact dd|fail) only [go_sem,seval]
  · simp (disch:=first|exact dd|fail) only [go_sem,seval]
  · simp (disch:=first|exact dd|fail) only [go_sem,seval]
  · intro x' _;simp (disch:=first|exact dd|fail) only [go_sem,seval]
  · rintro x' h rfl
    have e1 : shRow q l 0 = (sdiv q l).1:=by rw [shRow,List.drop_zero,List.take_zero,List.nil_append]
    rw [List.drop_zero,e1]
    have r1:=sdiv_rem hq0 l
    simp (disch:=first|exact dd|fail) only [go_sem,seval]
    try exact fun _ _ => trivial
  · rintro x' k hk1 hk rfl
    have g1:=hl.getD k
    have r1:=sdiv_rem hq0 (l.drop (k + 1))
    have hat:=shRow_at q hk
    have hst:=shRow_step q hk
    have hrow:=fun (d j : Nat) => lR_set' (w:=shRow q l (k + 1)) (i:=k) (d:=d) (j:=j) (by rw [shRow_len];omega)
    have hs2 : (sdiv q (l.drop k)).2 = ((sdiv q (l.drop (k + 1))).2 * 4294967296 + l.getD k 0) % q:=by rw [lim_drop hk];rfl
    have eo:=or_up (sdiv q (l.drop (k + 1))).2 (l.getD k 0) (by omega) g1
    have hd:=sdiv_low hq0 (l:=l.drop k) (fun y hy => hl y (List.mem_of_mem_drop hy)) (((sdiv q (l.drop (k + 1))).2 * 4294967296 + l.getD k 0) / q) (by rw [lim_drop hk];exact List.mem_cons_self)
    have hm : ((sdiv q (l.drop (k + 1))).2 * 4294967296 + l.getD k 0) % q < q:=Nat.mod_lt _ hq0
    refine ⟨.sl 0 v 0 l.length, .int .u32 ((l.getD k 0 : Nat) : Int),rfl, ?_, ?_⟩
    · simp [elt]
      show (if v = v ∧ 1 = 1 ∧ k < l.length then some (lR (shRow q l (k + 1)) k) else none) = _
      rw [if_pos ⟨rfl,rfl,hk⟩,lR,hat,List.getD_eq_getElem?_getD]
    generalize hR : (sdiv q (l.drop (k + 1))).2 = R at *
    generalize hX : l.getD k 0 = X at *
    have htd : (((R * 4294967296 + X : Nat) : Int)).tdiv (q : Int) = (((R * 4294967296 + X) / q : Nat) : Int):=(Int.ofNat_tdiv _ _).symm
    have htm : (((R * 4294967296 + X : Nat) : Int)).tmod (q : Int) = (((R * 4294967296 + X) % q : Nat) : Int):=(Int.ofNat_tmod _ _).symm
    generalize (R * 4294967296 + X) / q = Dv at *
    generalize (R * 4294967296 + X) % q = Mv at *
    simp (disch:=first|exact dd|fail) only [go_sem,seval,eo,htd,htm,hR]
    refine BGo.of k (by simp (disch:=first|exact dd|fail) only [go_sem,seval]) (by omega) rfl (by simp [mx]) ?_ ?_
    · simp (disch:=first|exact dd|fail) only [go_sem,seval]
    · simp (disch:=first|exact dd|fail) only [go_sem,seval,hs2,hst,hrow]
      try exact fun _ _ => trivial
def DifP (x y : List Nat) (s : Nat × Nat × List Nat) : Prop:=s.1 ≤ x.length ∧ s.2.1 ≤ 1 ∧ s.2.2.length = x.length ∧ lows s.2.2 ∧ val (s.2.2.take s.1) + val (y.take s.1) = val (x.take s.1) + 4294967296 ^ s.1 * s.2.1
theorem DifP.next {x y : List Nat} (hx : lows x) (hy : lows y) {i c : Nat} {w : List Nat} (h : DifP x y (i,c,w)) (hi : i < x.length) :
    DifP x y (i + 1,(if x.getD i 0 < y.getD i 0 + c then 1 else 0),w.set i ((4294967296 + x.getD i 0 - c - y.getD i 0) % 4294967296)):=by
  obtain ⟨h1,h2,h3,h4,h5⟩:=h
  simp only at h1 h2 h3 h4 h5
  have g1:=hx.getD i
  have g2:=hy.getD i
  have hstep:=dif_step (w:=w) (d:=(4294967296 + x.getD i 0 - c - y.getD i 0) % 4294967296) (c':=if x.getD i 0 < y.getD i 0 + c then 1 else 0) (by omega) h5 (by split <;> omega)
  clear h5
  exact ⟨hi,by show (if _ then 1 else 0) ≤ 1;split <;> omega,by simp only [List.length_set];exact h3,lows_set h4 (by omega),hstep⟩
theorem DifP.fin {x y : List Nat} (hle : y.length ≤ x.length) (hv : val y ≤ val x) {c : Nat} {w : List Nat} (h : DifP x y (x.length,c,w)) : lows w ∧ val w = val x - val y:=by
  obtain ⟨h1,h2,h3,h4,h5⟩:=h
  simp only at h1 h2 h3 h4 h5
  rw [List.take_of_length_le (by omega),List.take_of_length_le (by omega),List.take_of_length_le (by omega)] at h5
  have hlt:=val_ltB h4
  rw [h3] at hlt
  refine ⟨h4, ?_⟩
  rcases (show c = 0 ∨ c = 1 by omega) with rfl | rfl
  · omega
  · omega
theorem u64_wr (z : Int) : IntKind.u64.wrap z = z % 18446744073709551616:=by
  simp [IntKind.wrap,IntKind.bits,IntKind.signed]
def MulI (x y : List Nat) (i : Nat) (w : List Nat) : Prop:=w.length = x.length + y.length ∧ lows w ∧ val (w.take (i + y.length)) = val (x.take i) * val y
def MulK (x y w : List Nat) (i : Nat) (s : Nat × Nat × List Nat) : Prop:=s.1 ≤ y.length ∧ s.2.1 < 4294967296 ∧ s.2.2.length = x.length + y.length ∧ lows s.2.2 ∧
  val (s.2.2.take (i + s.1)) + 4294967296 ^ (i + s.1) * s.2.1 = val (w.take (i + s.1)) + 4294967296 ^ i * (x.getD i 0 * val (y.take s.1)) ∧ s.2.2.drop (i + s.1) = w.drop (i + s.1)
theorem MulI.zero (x y : List Nat) : MulI x y 0 (List.replicate (x.length + y.length) 0):=
  ⟨by simp,lows_rep _,by rw [List.take_replicate,val_rep,List.take_zero,val,Nat.zero_mul]⟩
theorem MulI.fin {x y w : List Nat} (h : MulI x y x.length w) : lows w ∧ val w = val x * val y:=by
  obtain ⟨h1,h2,h3⟩:=h
  rw [List.take_of_length_le (by omega),List.take_of_length_le (Nat.le_refl _)] at h3
  exact ⟨h2,h3⟩
theorem MulK.zero {x y w : List Nat} {i : Nat} (h : MulI x y i w) : MulK x y w i (0,0,w):=by
  obtain ⟨h1,h2,h3⟩:=h
  exact ⟨Nat.zero_le _,by simp,h1,h2,by simp [val],rfl⟩
theorem mul_bound {c x y z : Nat} (hc : c < 4294967296) (hx : x < 4294967296) (hy : y < 4294967296) (hz : z < 4294967296) : x * y < 18446744065119617026 ∧ x * y + z < 18446744069414584321 ∧ c + (x * y + z) < 18446744073709551616:=by
  have h1 : x * y ≤ 4294967295 * 4294967295:=Nat.mul_le_mul (by omega) (by omega)
  generalize x * y = p at *
  omega
theorem MulK.next {x y w : List Nat} (hx : lows x) (hy : lows y) {i k c : Nat} {w' : List Nat} (h : MulK x y w i (k,c,w')) (hi : i < x.length) (hk : k < y.length) :
    MulK x y w i (k + 1,(c + (x.getD i 0 * y.getD k 0 + w'.getD (i + k) 0)) / 4294967296,w'.set (i + k) ((c + (x.getD i 0 * y.getD k 0 + w'.getD (i + k) 0)) % 4294967296)):=by
  obtain ⟨h1,h2,h3,h4,h5,h6⟩:=h
  simp only at h1 h2 h3 h4 h5 h6
  have hb:=mul_bound h2 (hx.getD i) (hy.getD k) (h4.getD (i + k))
  have hw:=getD_of_drop h6
  generalize ht : c + (x.getD i 0 * y.getD k 0 + w'.getD (i + k) 0) = t at *
  refine ⟨hk, ?_,by simp only [List.length_set];exact h3,lows_set h4 (by omega), ?_, ?_⟩
  · show t / 4294967296 < 4294967296
    obtain ⟨_,_,h⟩:=hb
    clear h5
    omega
  · show val ((w'.set (i + k) (t % 4294967296)).take (i + k + 1)) + 4294967296 ^ (i + k + 1) * (t / 4294967296) = val (w.take (i + k + 1)) + 4294967296 ^ i * (x.getD i 0 * val (y.take (k + 1)))
    rw [set_take_val (by omega),val_take_succ w,val_take_succ y,Nat.pow_succ,Nat.mul_assoc,Nat.mul_add (x.getD i 0),Nat.mul_add (4294967296 ^ i),Nat.mul_left_comm (x.getD i 0),← Nat.mul_assoc (4294967296 ^ i) (4294967296 ^ k),← Nat.pow_add,← hw]
    have e:=Nat.div_add_mod t 4294967296
    have e2 : 4294967296 ^ (i + k) * (t % 4294967296) + 4294967296 ^ (i + k) * (4294967296 * (t / 4294967296)) = 4294967296 ^ (i + k) * c + (4294967296 ^ (i + k) * (x.getD i 0 * y.getD k 0) + 4294967296 ^ (i + k) * w'.getD (i + k) 0):=by
      rw [← Nat.mul_add,← Nat.mul_add,← Nat.mul_add,ht]
      congr 1
      clear h5 e
      omega
    clear e ht hb
    generalize 4294967296 ^ (i + k) * (t % 4294967296) = a1 at *
    generalize 4294967296 ^ (i + k) * (4294967296 * (t / 4294967296)) = a2 at *
    generalize 4294967296 ^ (i + k) * c = a3 at *
    generalize 4294967296 ^ (i + k) * (x.getD i 0 * y.getD k 0) = a4 at *
    generalize 4294967296 ^ (i + k) * w'.getD (i + k) 0 = a5 at *
    generalize 4294967296 ^ i * (x.getD i 0 * val (y.take k)) = a6 at *
    omega
  · show (w'.set (i + k) (t % 4294967296)).drop (i + k + 1) = w.drop (i + k + 1)
    rw [set_drop];exact drop_succ_of h6
theorem MulK.fin {x y w : List Nat} {i c : Nat} {w' : List Nat} (h0 : MulI x y i w) (h : MulK x y w i (y.length,c,w')) (hi : i < x.length) : MulI x y (i + 1) (w'.set (i + y.length) c):=by
  obtain ⟨g1,g2,g3⟩:=h0
  obtain ⟨h1,h2,h3,h4,h5,h6⟩:=h
  simp only at h1 h2 h3 h4 h5 h6
  refine ⟨by rw [List.length_set];exact h3,lows_set h4 h2, ?_⟩
  rw [show i + 1 + y.length = i + y.length + 1 by omega,set_take_val (by omega),h5,g3,List.take_of_length_le (Nat.le_refl y.length),val_take_succ x,Nat.add_mul,Nat.mul_assoc]
theorem wr_mul {x y z c : Nat} (hc : c < 4294967296) (hx : x < 4294967296) (hy : y < 4294967296) (hz : z < 4294967296) :
    IntKind.u64.wrap ((x : Int) * (y : Int)) = ((x * y : Nat) : Int) ∧ IntKind.u64.wrap (((x * y : Nat) : Int) + (z : Int)) = ((x * y + z : Nat) : Int) ∧ IntKind.u64.wrap ((c : Int) + ((x * y + z : Nat) : Int)) = ((c + (x * y + z) : Nat) : Int) ∧
      IntKind.u32.wrap ((c + (x * y + z) : Nat) : Int) = (((c + (x * y + z)) % 4294967296 : Nat) : Int) ∧ ((c + (x * y + z) : Nat) : Int) / 4294967296 = (((c + (x * y + z)) / 4294967296 : Nat) : Int):=by
  obtain ⟨h1,h2,h3⟩:=mul_bound hc hx hy hz
  rw [← Int.natCast_mul]
  generalize x * y = p at *
  refine ⟨wrap_u64 (by omega), ?_, ?_, ?_,by omega⟩
  · rw [wrap_u64 (by omega)];omega
  · rw [wrap_u64 (by omega)];omega
  · rw [wrap_u32'];omega
theorem or_addN (i a b : Nat) (h : b < 2 ^ i) : b ||| 2 ^ i * a = b + 2 ^ i * a:=by
  rw [Nat.or_comm,← Nat.two_pow_add_eq_or_of_lt h,Nat.add_comm]
def ShlI (x : List Nat) (s r i : Nat) (w : List Nat) : Prop:=i ≤ x.length ∧ w.length = x.length + s + 1 ∧ lows w ∧ w.getD (i + s) 0 < 2 ^ r ∧ val (w.take (i + s + 1)) = val (x.take i) * (2 ^ r * 4294967296 ^ s)
theorem ShlI.zero (x : List Nat) (s r : Nat) : ShlI x s r 0 (List.replicate (x.length + s + 1) 0):=by
  refine ⟨Nat.zero_le _,by simp,lows_rep _, ?_, ?_⟩
  · rw [List.getD_eq_getElem?_getD,List.getElem?_replicate]
    split
    · exact Nat.two_pow_pos r
    · exact Nat.two_pow_pos r
  · rw [List.take_replicate,val_rep,List.take_zero,val,Nat.zero_mul]
theorem ShlI.fin {x : List Nat} {s r : Nat} {w : List Nat} (h : ShlI x s r x.length w) : lows w ∧ val w = val x * (2 ^ r * 4294967296 ^ s):=by
  obtain ⟨_,h1,h2,_,h3⟩:=h
  rw [List.take_of_length_le (by omega),List.take_of_length_le (Nat.le_refl _)] at h3
  exact ⟨h2,h3⟩
theorem shl_limb {x r : Nat} (hx : x < 4294967296) (hr : r < 32) : x * 2 ^ r < 9223372036854775808 ∧ x * 2 ^ r / 4294967296 < 2 ^ r ∧ ∃ q,x * 2 ^ r % 4294967296 = 2 ^ r * q:=by
  have h1 : 2 ^ r ≤ 2 ^ 31:=Nat.pow_le_pow_right (by omega) (by omega)
  have h2 : x * 2 ^ r ≤ 4294967295 * 2 ^ 31:=Nat.mul_le_mul (by omega) h1
  have h0:=Nat.two_pow_pos r
  refine ⟨by omega, ?_,x % 2 ^ (32 - r), ?_⟩
  · rw [Nat.div_lt_iff_lt_mul (by omega),Nat.mul_comm]
    exact Nat.mul_lt_mul_of_pos_left hx h0
  · have e : (4294967296 : Nat) = 2 ^ (32 - r) * 2 ^ r:=by rw [← Nat.pow_add,show 32 - r + r = 32 by omega]
    conv => lhs;rw [e]
    rw [Nat.mul_mod_mul_right,Nat.mul_comm]
theorem ShlI.next {x : List Nat} (hx : lows x) {s r i : Nat} (hr : r < 32) {w : List Nat} (h : ShlI x s r i w) (hi : i < x.length) :
    (w.getD (i + s) 0 ||| (x.getD i 0 * 2 ^ r) % 4294967296) = w.getD (i + s) 0 + (x.getD i 0 * 2 ^ r) % 4294967296 ∧ w.getD (i + s) 0 + (x.getD i 0 * 2 ^ r) % 4294967296 < 4294967296 ∧
    ShlI x s r (i + 1) ((w.set (i + s) (w.getD (i + s) 0 + (x.getD i 0 * 2 ^ r) % 4294967296)).set (i + s + 1) (x.getD i 0 * 2 ^ r / 4294967296)):=by
  obtain ⟨_,h1,h2,h3,h4⟩:=h
  obtain ⟨b1,b2,q,b3⟩:=shl_limb (hx.getD i) hr
  have g1:=h2.getD (i + s)
  have hlt : w.getD (i + s) 0 + (x.getD i 0 * 2 ^ r) % 4294967296 < 4294967296:=by
    rw [b3,← or_addN r q _ h3]
    have e : w.getD (i + s) 0 ||| 2 ^ r * q < 2 ^ 32:=Nat.or_lt_two_pow g1 (by rw [← b3];exact Nat.mod_lt _ (by omega))
    exact e
  refine ⟨?_,hlt,hi,by simp only [List.length_set];exact h1,lows_set (lows_set h2 hlt) ?_, ?_, ?_⟩
  · rw [b3,or_addN r q _ h3]
  · clear h4 hlt;omega
  · rw [show i + 1 + s = i + s + 1 by omega,List.getD_eq_getElem?_getD,List.getElem?_set_self (by rw [List.length_set];omega)]
    exact b2
  · rw [show i + 1 + s + 1 = i + s + 1 + 1 by omega,set_take_val (by rw [List.length_set];omega),set_take_val (by omega),val_take_succ x,Nat.add_mul,← h4,val_take_succ w,Nat.mul_add,Nat.pow_succ,Nat.mul_assoc (4294967296 ^ (i + s))]
    have e : 4294967296 ^ i * x.getD i 0 * (2 ^ r * 4294967296 ^ s) = 4294967296 ^ (i + s) * (x.getD i 0 * 2 ^ r):=by
      rw [Nat.pow_add,Nat.mul_assoc,Nat.mul_assoc,← Nat.mul_assoc (x.getD i 0),Nat.mul_comm (x.getD i 0 * 2 ^ r)]
    have e2:=Nat.div_add_mod (x.getD i 0 * 2 ^ r) 4294967296
    rw [e]
    conv => rhs;rw [← e2]
    rw [Nat.mul_add]
    omega
def ShrI (x : List Nat) (r i : Nat) (w : List Nat) : Prop:=i ≤ x.length ∧ w.length = x.length ∧ lows w ∧ (∀ j,j + 1 = i → w.getD j 0 = x.getD j 0 / 2 ^ r) ∧ val (w.take i) = val (x.take i) / 2 ^ r
theorem ShrI.zero (x : List Nat) (r : Nat) : ShrI x r 0 (List.replicate x.length 0):=
  ⟨Nat.zero_le _,by simp,lows_rep _,fun j hj => by omega,by simp [val]⟩
theorem ShrI.fin {x : List Nat} {r : Nat} {w : List Nat} (h : ShrI x r x.length w) : lows w ∧ val w = val x / 2 ^ r:=by
  obtain ⟨_,h1,h2,_,h3⟩:=h
  rw [List.take_of_length_le (by omega),List.take_of_length_le (Nat.le_refl _)] at h3
  exact ⟨h2,h3⟩
theorem shr_limb {x y r : Nat} (hx : x < 4294967296) (hy : y < 4294967296) (hr : r < 32) : (x * 2 ^ (32 - r)) % 4294967296 = 2 ^ (32 - r) * (x % 2 ^ r) ∧ y / 2 ^ r < 2 ^ (32 - r) ∧ x * 2 ^ (32 - r) < 18446744073709551616:=by
  have e : (4294967296 : Nat) = 2 ^ r * 2 ^ (32 - r):=by rw [← Nat.pow_add,show r + (32 - r) = 32 by omega]
  refine ⟨?_, ?_, ?_⟩
  · conv => lhs;rw [e]
    rw [Nat.mul_mod_mul_right,Nat.mul_comm]
  · rw [Nat.div_lt_iff_lt_mul (Nat.two_pow_pos r),Nat.mul_comm,← e];exact hy
  · have h1 : 2 ^ (32 - r) ≤ 2 ^ 32:=Nat.pow_le_pow_right (by omega) (by omega)
    have h2 : x * 2 ^ (32 - r) ≤ 4294967295 * 2 ^ 32:=Nat.mul_le_mul (by omega) h1
    omega
theorem ShrI.first {x : List Nat} (hx : lows x) {r : Nat} {w : List Nat} (h : ShrI x r 0 w) (hi : 0 < x.length) : ShrI x r 1 (w.set 0 (x.getD 0 0 / 2 ^ r)):=by
  obtain ⟨_,h1,h2,h3,h4⟩:=h
  have g:=hx.getD 0
  have hle : x.getD 0 0 / 2 ^ r ≤ x.getD 0 0:=Nat.div_le_self _ _
  refine ⟨hi,by rw [List.length_set];exact h1,lows_set h2 (by omega),fun j hj => ?_, ?_⟩
  · obtain rfl : j = 0:=by omega
    rw [List.getD_eq_getElem?_getD,List.getElem?_set_self (by omega)];rfl
  · have:=set_take_val (l:=w) (i:=0) (d:=x.getD 0 0 / 2 ^ r) (by omega)
    rw [Nat.zero_add] at this
    rw [this]
    have e:=val_take_succ x 0
    rw [Nat.zero_add] at e
    rw [e]
    simp [val]
theorem ShrI.next {x : List Nat} (hx : lows x) {r i : Nat} (hr : r < 32) {w : List Nat} (h : ShrI x r (i + 1) w) (hi : i + 1 < x.length) :
    (w.getD i 0 ||| (x.getD (i + 1) 0 * 2 ^ (32 - r)) % 4294967296) = w.getD i 0 + (x.getD (i + 1) 0 * 2 ^ (32 - r)) % 4294967296 ∧ w.getD i 0 + (x.getD (i + 1) 0 * 2 ^ (32 - r)) % 4294967296 < 4294967296 ∧
    ShrI x r (i + 2) ((w.set (i + 1) (x.getD (i + 1) 0 / 2 ^ r)).set i (w.getD i 0 + (x.getD (i + 1) 0 * 2 ^ (32 - r)) % 4294967296)):=by
  obtain ⟨_,h1,h2,h3,h4⟩:=h
  obtain ⟨b1,b2,b3⟩:=shr_limb (x:=x.getD (i + 1) 0) (y:=x.getD i 0) (hx.getD (i + 1)) (hx.getD i) hr
  have hw:=h3 i rfl
  have g1:=h2.getD i
  have g2:=hx.getD (i + 1)
  have hle : x.getD (i + 1) 0 / 2 ^ r ≤ x.getD (i + 1) 0:=Nat.div_le_self _ _
  have hlt : w.getD i 0 + (x.getD (i + 1) 0 * 2 ^ (32 - r)) % 4294967296 < 4294967296:=by
    rw [b1,← or_addN (32 - r) _ _ (by rw [hw];exact b2)]
    have e : w.getD i 0 ||| 2 ^ (32 - r) * (x.getD (i + 1) 0 % 2 ^ r) < 2 ^ 32:=Nat.or_lt_two_pow g1 (by rw [← b1];exact Nat.mod_lt _ (by omega))
    exact e
  refine ⟨?_,hlt,hi,by simp only [List.length_set];exact h1,lows_set (lows_set h2 (by omega)) hlt,fun j hj => ?_, ?_⟩
  · rw [b1,or_addN (32 - r) _ _ (by rw [hw];exact b2)]
  · obtain rfl : j = i + 1:=by omega
    rw [List.getD_eq_getElem?_getD,List.getElem?_set_ne (by omega),List.getElem?_set_self (by omega)];rfl
  · have hp:=Nat.two_pow_pos r
    have e32 : (4294967296 : Nat) = 2 ^ (32 - r) * 2 ^ r:=by rw [← Nat.pow_add,show 32 - r + r = 32 by omega]
    rw [val_take_succ,val_take_succ x,List.getD_eq_getElem?_getD (l:=(w.set (i + 1) _).set i _),List.getElem?_set_ne (by omega),List.getElem?_set_self (by omega),Option.getD_some]
    have e1 : ((w.set (i + 1) (x.getD (i + 1) 0 / 2 ^ r)).set i (w.getD i 0 + (x.getD (i + 1) 0 * 2 ^ (32 - r)) % 4294967296)).take (i + 1) = (w.set i (w.getD i 0 + (x.getD (i + 1) 0 * 2 ^ (32 - r)) % 4294967296)).take (i + 1):=by
      rw [List.take_set,List.take_set,List.take_set,List.set_comm _ _ (by omega),List.set_eq_of_length_le]
      rw [List.length_set,List.length_take];omega
    rw [e1,set_take_val (by omega),Nat.mul_add,← Nat.add_assoc,← val_take_succ,h4,b1]
    have e3 : 4294967296 ^ (i + 1) * x.getD (i + 1) 0 = 2 ^ r * (4294967296 ^ i * (2 ^ (32 - r) * (x.getD (i + 1) 0 % 2 ^ r)) + 4294967296 ^ (i + 1) * (x.getD (i + 1) 0 / 2 ^ r)):=by
      have e4 : 4294967296 ^ (i + 1) = 4294967296 ^ i * (2 ^ (32 - r) * 2 ^ r):=by rw [Nat.pow_succ,← e32]
      conv => lhs;rw [← Nat.div_add_mod (x.getD (i + 1) 0) (2 ^ r)]
      rw [Nat.mul_add,Nat.mul_add,Nat.add_comm]
      congr 1
      · rw [e4];simp only [Nat.mul_comm,Nat.mul_left_comm,Nat.mul_assoc]
      · simp only [Nat.mul_comm,Nat.mul_left_comm,Nat.mul_assoc]
    rw [e3,Nat.add_mul_div_left _ _ hp,Nat.add_assoc]
theorem CG.freeze {E : Ctx} {f : FuncId} {args : List D} {d d' : D} {h' : Hp} (hC : CG E f args [] d h') (hd : imp nof h' d = d') : C E f args d':=by
  refine ⟨hC.1,fun S w vs φ hS hG hA hB hv => ?_⟩
  refine (hC.2 S w vs φ hS hG hA hB hv).mono fun e w' hq => ?_
  obtain ⟨v,S',φ',rfl,r1,r2,r3,r4,r5,r6,r7,r8⟩:=hq
  have hi:=imp_rep (h2:=[]) (φ2:=φ') (ρ:=nof) (fs:=refs nof d) r2 (fun b i hb => by cases hb) d v r1 (fun b hb => hb)
  rw [hd] at hi
  refine ⟨v,_,φ',rfl,hi,⟨fun b x hl => (by cases hl),fun b b' x x' c t t' hl => (by cases hl)⟩,fun b => ⟨fun ag sz d ty hl => (by cases hl),fun fz ver ag sz m g _ hl => (by cases hl)⟩,fun c hc => ?_,r5,fun b hb => .inl (r6 b hb),fun c hc => ?_,fun c hc hlt => ?_⟩
  · obtain ⟨b,x,t,hl,_⟩:=hc;cases hl
  · rcases hc with hc | ⟨b,_,fz,ver,ag,sz,n,g,_,t,hl,hp⟩
    · exact r7 c hc
    · exact (r4 c ⟨b,_,t,hl,hp⟩).1
  · rcases hc with hc | ⟨b,_,fz,ver,ag,sz,n,g,_,t,hl,hp⟩
    · exact r8 c hc hlt
    · rcases (r4 c ⟨b,_,t,hl,hp⟩).2 with h | h
      · omega
      · exact .inr h
theorem C.of_walk {E : Ctx} {f : FuncId} {args : List D} {d : D} (hf : fnOk E.P f = true) (h : ∀ S w vs,(∀ b,S b → b < w.heap.size) → RepVs [] (fun _ => none) S w args vs → Calls E.P f ⟨vs⟩ w fun e w' => ∃ v,e = .returned v ∧ (∀ S w,Rep0 S w d v) ∧ Below w.heap.size w w')
    (hφ : ∀ φ S w vs,RepVs [] φ S w args vs → RepVs [] (fun _ => none) S w args vs) : C E f args d:=by
  refine ⟨hf,fun S w vs φ hS _ _ _ hv => (h S w vs hS (hφ _ _ _ _ hv)).mono ?_⟩
  rintro e w' ⟨v,he,hr,hb⟩
  exact ⟨v,S,φ,he,Rep0.toV _ _ (hr S w'),⟨fun b x h => by simp [lookB] at h,fun b b' x x' c t t' h => by simp [lookB] at h⟩,HpExt.refl _ _,fun c ⟨b,x,t,h,_⟩ => by simp [lookB] at h,
    ⟨hb.os,hb.tape,hb.output,hb.size,fun k hk _ => hb.block k hk⟩,fun _ h => h,fun b h => Nat.lt_of_lt_of_le (hS b h) hb.size,fun b h _ => .inl h⟩
theorem bits_or32 (a b : Nat) (ha : a < 4294967296) (hb : b < 4294967296) : bits .u32 .or (a : Int) (b : Int) = ((a ||| b : Nat) : Int):=by
  have e : ∀ v : Nat,v < 4294967296 → (BitVec.ofInt IntKind.u32.bits (v : Int)).toNat = v:=fun v hv => by
    show (BitVec.ofInt 32 (v : Int)).toNat = v
    simp;omega
  have hlt : a ||| b < 4294967296:=Nat.or_lt_two_pow (n:=32) ha hb
  unfold bits
  simp only [BitVec.toNat_or,e a ha,e b hb]
  rw [wrap_u32 (by omega)]
def padL (n N : Nat) : List Nat:=limbs n ++ List.replicate (N - nb n) 0
theorem pad_val {l : List Nat} (hl : lows l) : l = padL (val l) l.length:=by
  suffices h : ∀ k,k ≤ l.length → val (l.take k) = val l → (∀ j,j + 1 = k → l.getD j 0 ≠ 0) → l = padL (val l) l.length by
    have : ∀ k,k ≤ l.length → val (l.take k) = val l → l = padL (val l) l.length:=by
      intro k
      induction k with
      | zero => intro h1 h2;exact h 0 h1 h2 fun j hj => by omega
      | succ k ih =>
        intro h1 h2
        by_cases h0 : l.getD k 0 = 0
        · exact ih (by omega) (by rw [← val_take (by omega) h0];exact h2)
        · exact h (k + 1) h1 h2 fun j hj => by
            obtain rfl : j = k:=by omega
            exact h0
    exact this l.length (Nat.le_refl _) (by rw [List.take_length])
  intro k h1 h2 h3
  have e:=cut_fin hl h1 h2 h3
  have hz : val (l.drop k) = 0:=by
    have:=val_cut l k h1
    rw [h2] at this
    have hp : 0 < 4294967296 ^ k:=Nat.pow_pos (by omega)
    rcases Nat.eq_zero_or_pos (val (l.drop k)) with h | h
    · exact h
    · have:=Nat.mul_pos hp h;omega
  have hr : l.drop k = List.replicate (l.length - k) 0:=by
    rw [List.eq_replicate_iff]
    exact ⟨by rw [List.length_drop],fun x hx => val_zero_iff.1 hz x hx⟩
  have hn : nb (val l) = k:=by rw [nb,e,List.length_take];omega
  rw [padL,e,hn,← hr,List.take_append_drop]
theorem padL_len {n N : Nat} (h : nb n ≤ N) : (padL n N).length = N:=by
  rw [padL,List.length_append,List.length_replicate];unfold nb at *;omega
theorem padL_getD {n N i : Nat} (h : i < nb n) : (padL n N).getD i 0 = (limbs n).getD i 0:=by
  rw [padL,List.getD_eq_getElem?_getD,List.getElem?_append_left h,List.getD_eq_getElem?_getD]
def shN (n : Int) : Nat:=(min (max n 0) 1048576).toNat
theorem shN_le (n : Int) : shN n ≤ 1048576:=by unfold shN;omega
theorem shN_eq (n : Int) : min (max n 0) 1048576 = (shN n : Int):=by unfold shN;omega
theorem shN_id {n : Nat} (h : n ≤ 1048576) : shN (n : Int) = n:=by unfold shN;omega
theorem quo32 (n : Nat) : ((n : Int)).tdiv 32 = ((n / 32 : Nat) : Int):=(Int.ofNat_tdiv _ _).symm
theorem rem32 (n : Nat) : ((n : Int)).tmod 32 = ((n % 32 : Nat) : Int):=(Int.ofNat_tmod _ _).symm
theorem shl_fact (x r : Nat) (hx : x < 4294967296) (hr : r < 32) : IntKind.u64.wrap ((x : Int) * ((2 ^ r : Nat) : Int)) = ((x * 2 ^ r : Nat) : Int) ∧ IntKind.u32.wrap ((x * 2 ^ r : Nat) : Int) = ((x * 2 ^ r % 4294967296 : Nat) : Int) ∧ ((x * 2 ^ r : Nat) : Int) / 4294967296 = ((x * 2 ^ r / 4294967296 : Nat) : Int) ∧ IntKind.u32.wrap ((x * 2 ^ r / 4294967296 : Nat) : Int) = ((x * 2 ^ r / 4294967296 : Nat) : Int):=by
  obtain ⟨h1,h2,_⟩:=shl_limb hx hr
  rw [← Int.natCast_mul]
  generalize x * 2 ^ r = p at *
  refine ⟨wrap_u64 (by omega),by rw [wrap_u32'];omega,by omega,wrap_u32 (by omega)⟩
theorem min64 {r : Nat} (h : r < 64) : min r 64 = r:=by omega
theorem lR_set2 {w : List Nat} {i k d e j : Nat} (hi : i < w.length) (hk : k < w.length) : (if j = k then D.int .u32 ((e : Nat) : Int) else if j = i then D.int .u32 ((d : Nat) : Int) else D.int .u32 ((w.getD j 0 : Nat) : Int)) = lR ((w.set i d).set k e) j:=by
  rw [← lR_set' (by rw [List.length_set];exact hk),← lR_set' hi]
  rfl
theorem nat_Shl_own {a : Nat} (ha : nb a < 536870912) (n : Int) : CG E 177 [natD a, .int .i64 n] [] (.agg [.sl 2 0 0 (nb (a * 2 ^ shN n))])
    [(2, .row false 0 false 1 (nb a + shN n / 32 + 1) (lR (padL (a * 2 ^ shN n) (nb a + shN n / 32 + 1))))]:=by
  refine CG_intro Tryz.func177 rfl (by kernel_rfl) rfl (by kernel_rfl) (by kernel_rfl) rfl ?_
  have hmn:=shN_eq n
  have hle:=shN_le n
  have hpow : 2 ^ shN n = 2 ^ (shN n % 32) * 4294967296 ^ (shN n / 32):=by
    conv => lhs;rw [← Nat.div_add_mod (shN n) 32]
    rw [Nat.pow_add,Nat.pow_mul,Nat.mul_comm]
  rw [hpow]
  unfold nb at ha ⊢
  have va:=val_limbs a
  have la:=limbs_low a
  have hq:=quo32 (shN n)
  have hr:=rem32 (shN n)
  have hr32 : shN n % 32 < 32:=Nat.mod_lt _ (by omega)
  have hs32 : shN n / 32 ≤ 32768:=by omega
  simp only [natD]
  generalize limbs a = l at *
  subst va
  generalize shN n / 32 = s at *
  generalize shN n % 32 = r at *
  generalize shN n = k at *
  have e0 : ((l.length : Int) + (s : Int) + 1).toNat = l.length + s + 1:=by omega
  simp (disch:=first|exact dd|fail) only [go_sem,seval,natD,u32s,e0,hmn,hq,hr]
  refine ⟨by omega,by omega,by omega, ?_⟩
  refine AL.of (fun z : Nat × List Nat => ShlI l s r z.1 z.2) (fun z => l.length - z.1) (fun z => [(1, .int .i64 k),(2, .ad 0 0),(4, .ad 1 0),(5, .sl 2 0 0 (l.length + s + 1)),(21,u32s l),(22, .int .i64 l.length),(23, .int .i64 z.1)])
    (fun z => [(2, .row false 0 false 1 (l.length + s + 1) (lR z.2)),(1, .var true 1 (.agg [.nils])),(0, .var true 1 (.agg [u32s l]))]) (0,List.replicate (l.length + s + 1) 0) (ShlI.zero l s r) ?_ ?_ ?_ ?_
  · simp (disch:=first|exact dd|fail) only [go_sem,seval,u32s,e0]
  · simp (disch:=first|exact dd|fail) only [go_sem,seval,u32s,e0]
    try exact fun i hi => Le.of_eq (by unfold lR;rw [List.getD_eq_getElem?_getD,List.getElem?_replicate,if_pos hi];rfl)
  · intro x _;simp (disch:=first|exact dd|fail) only [go_sem,seval]
  rintro ⟨i,w⟩ hI
  have hI : ShlI l s r i w:=hI
  clear hpow
  by_cases hi : i = l.length
  · subst hi
    obtain ⟨q1,q2⟩:=hI.fin
    have hlen:=hI.2.1
    have hc:=nat_cut_own q1 (by omega) 0
    have hpd:=pad_val q1
    rw [hlen] at hpd hc
    clear hI
    rw [← q2,← hpd]
    simp (disch:=first|exact dd|fail) only [go_sem,seval,u32s]
    refine callG [2] hc rfl (by simp (disch:=first|exact dd|fail) only [go_sem,seval]) ?_ ?_ ?_
    · simp (disch:=first|exact dd|fail) only [go_sem,seval]
    · simp (disch:=first|exact dd|fail) only [go_sem,seval]
    simp (disch:=first|exact dd|fail) only [go_sem,seval,u32s]
    exact ⟨LeV.refl _,fun _ _ => trivial⟩
  · have hil : i ≤ l.length:=hI.1
    have hi' : i < l.length:=by omega
    obtain ⟨g1,g2,hn⟩:=hI.next la hr32 hi'
    have hlen:=hI.2.1
    have hw:=hI.2.2.1.getD (i + s)
    have e1 : ((i : Int) + (s : Int)).toNat = i + s:=by omega
    have e2 : ((i : Int) + (s : Int) + 1).toNat = i + s + 1:=by omega
    obtain ⟨f1,f2,f3,f4⟩:=shl_fact (l.getD i 0) r (la.getD i) hr32
    have ho:=bits_or32 (w.getD (i + s) 0) (l.getD i 0 * 2 ^ r % 4294967296) hw (Nat.mod_lt _ (by omega))
    rw [g1] at ho
    have gx:=la.getD i
    clear hI
    simp (disch:=first|exact dd|fail) only [go_sem,seval,u32s,lR,e1,e2,hq,hr,f1,f2,f3,f4,ho,min64]
    refine ⟨(i + 1,_),hn,by show l.length - (i + 1) < l.length - i;omega, ?_, ?_⟩
    · simp (disch:=first|exact dd|fail) only [go_sem,seval,u32s]
      try exact LeV.of_eq (by rw [Int.natCast_succ])
    · simp (disch:=first|exact dd|fail) only [go_sem,seval,u32s]
      exact fun j hj => Le.of_eq (lR_set2 (by omega) (by omega))
theorem LeV_nat {f : Nat → D} {n v : Nat} (e : n = nb v) (h : ∀ i,i < n → f i = lR (limbs v) i) : LeV (.ro false 1 n f) (u32s (limbs v)):=LeV.ro e fun i hi => Le.of_eq (h i hi)
theorem CG.le {E : Ctx} {f : FuncId} {args : List D} {h h' : Hp} {d d' : D} (hC : CG E f args h d h') (hd : LeV d d') : CG E f args h d' h':=by
  refine ⟨hC.1,fun S w vs φ hS hG hA hB hv => ?_⟩
  refine (hC.2 S w vs φ hS hG hA hB hv).mono fun e w' hq => ?_
  obtain ⟨v,S',φ',e,r1,r2⟩:=hq
  exact ⟨v,S',φ',e,hd _ _ _ _ _ r1,r2⟩
theorem nat_Shl {a : Nat} (ha : nb a < 536870912) (n : Int) : C E 177 [natD a, .int .i64 n] (natD (a * 2 ^ shN n)):=by
  refine CG.le ((nat_Shl_own ha n).freeze rfl) ?_
  refine LeV.agg (LesV.cons ?_ LesV.nil)
  simp only [imp,nof,lookB,if_true]
  exact LeV_nat rfl fun i hi => by
    show lR (padL _ _) (0 + i) = _
    rw [Nat.zero_add,lR,lR,padL_getD hi]
theorem val_drop {l : List Nat} (hl : lows l) {s : Nat} (hs : s ≤ l.length) : val (l.drop s) = val l / 4294967296 ^ s:=by
  have h1:=val_cut l s hs
  have h2:=val_ltB (lows_take hl s)
  rw [List.length_take,Nat.min_eq_left hs] at h2
  conv => rhs;rw [h1]
  rw [Nat.add_mul_div_left _ _ (Nat.pow_pos (by omega)),Nat.div_eq_of_lt h2,Nat.zero_add]
theorem shr_fact (x r : Nat) (hx : x < 4294967296) (hr : r < 32) : ((x : Int)).fdiv ((2 ^ r : Nat) : Int) = ((x / 2 ^ r : Nat) : Int) ∧ IntKind.u64.wrap ((x : Int) * ((2 ^ (32 - r) : Nat) : Int)) = ((x * 2 ^ (32 - r) : Nat) : Int) ∧ IntKind.u32.wrap ((x * 2 ^ (32 - r) : Nat) : Int) = ((x * 2 ^ (32 - r) % 4294967296 : Nat) : Int):=by
  obtain ⟨_,_,h1⟩:=shr_limb (x:=x) (y:=0) hx (by omega) hr
  rw [← Int.natCast_mul]
  generalize x * 2 ^ (32 - r) = p at *
  refine ⟨by rw [Int.fdiv_eq_ediv_of_nonneg _ (Int.natCast_nonneg _)];exact (Int.natCast_ediv _ _).symm,wrap_u64 (by omega),by rw [wrap_u32'];omega⟩
theorem LeV_int {k : IntKind} {a b : Int} (h : a = b) : LeV (.int k a) (.int k b):=LeV.of_eq (by rw [h])
theorem min32 {r : Nat} (h : r < 32) : min r 32 = r:=by omega
theorem nat_Shr {a : Nat} (ha : nb a < 536870912) (n : Int) : C E 188 [natD a, .int .i64 n] (natD (a / 2 ^ shN n)):=by
  refine CG_intro Tryz.func188 rfl (by kernel_rfl) rfl (by kernel_rfl) (by kernel_rfl) rfl ?_
  have hmn:=shN_eq n
  have hle:=shN_le n
  have hpow : 2 ^ shN n = 4294967296 ^ (shN n / 32) * 2 ^ (shN n % 32):=by
    conv => lhs;rw [← Nat.div_add_mod (shN n) 32]
    rw [Nat.pow_add,Nat.pow_mul]
  rw [hpow,← Nat.div_div_eq_div_mul]
  clear hpow
  have ha' : (limbs a).length < 536870912:=ha
  have va:=val_limbs a
  have la:=limbs_low a
  have hq:=quo32 (shN n)
  have hr:=rem32 (shN n)
  have hr32 : shN n % 32 < 32:=Nat.mod_lt _ (by omega)
  have hs32 : shN n / 32 ≤ 32768:=by omega
  generalize shN n / 32 = s at *
  generalize shN n % 32 = r at *
  generalize shN n = k at *
  simp only [natD]
  by_cases hs : (limbs a).length ≤ s
  · have h0 : a / 4294967296 ^ s / 2 ^ r = 0:=by
      have:=(nb_lt (n:=a) (k:=s)).1 hs
      rw [Nat.div_eq_of_lt this,Nat.zero_div]
    rw [h0,limbs_zero]
    generalize limbs a = l at *
    simp (disch:=first|exact dd|fail) only [go_sem,seval,natD,u32s,hmn,hq,hr]
    try exact LeV.agg (LesV.cons LeV.nils LesV.nil)
  · have hd : val ((limbs a).drop s) = a / 4294967296 ^ s:=by rw [val_drop la (by omega),va]
    rw [← hd]
    have ld:=lows_drop la s
    have hdl : ((limbs a).drop s).length = (limbs a).length - s:=List.length_drop
    have hge : ∀ i,(limbs a).getD (s + i) 0 = ((limbs a).drop s).getD i 0:=fun i => by rw [List.getD_eq_getElem?_getD,List.getD_eq_getElem?_getD,List.getElem?_drop]
    generalize hm : (limbs a).drop s = m at *
    generalize limbs a = l at *
    have e0 : ((l.length : Int).toNat - s) = m.length:=by omega
    have e1 : l.length - s = m.length:=by omega
    simp (disch:=first|exact dd|fail) only [go_sem,seval,natD,u32s,hmn,hq,hr,e0,e1,hge]
    refine ⟨by omega,by omega,by omega, ?_⟩
    refine AL.of (fun z : Nat × List Nat => ShrI m r z.1 z.2) (fun z => m.length - z.1) (fun z => [(1, .int .i64 k),(4, .ad 1 0),(6, .sl 2 0 0 m.length),(27,u32s m),(28, .int .i64 m.length),(29, .int .i64 z.1)])
      (fun z => [(2, .row false 0 false 1 m.length (lR z.2)),(1, .var true 1 (.agg [.nils])),(0, .var true 1 (.agg [u32s l]))]) (0,List.replicate m.length 0) (ShrI.zero m r) ?_ ?_ ?_ ?_
    · simp (disch:=first|exact dd|fail) only [go_sem,seval,u32s,e0,lR]
      try exact LeV.refl _
    · simp (disch:=first|exact dd|fail) only [go_sem,seval,u32s,e0]
      try exact fun i hi => Le.of_eq (by unfold lR;rw [List.getD_eq_getElem?_getD,List.getElem?_replicate,if_pos hi];rfl)
    · intro x _;simp (disch:=first|exact dd|fail) only [go_sem,seval]
    rintro ⟨i,w⟩ hI
    have hI : ShrI m r i w:=hI
    by_cases hi : i = m.length
    · subst hi
      obtain ⟨q1,q2⟩:=hI.fin
      have hlen:=hI.2.1
      have hc:=nat_cut q1 (by omega)
      rw [q2] at hc
      clear hI
      simp (disch:=first|exact dd|fail) only [go_sem,seval,u32s]
      refine callC hc ?_ rfl ?_
      · simp (disch:=first|exact dd|fail) only [go_sem,seval,u32s]
        exact LesV_rows (by omega) fun j hj => rfl
      simp (disch:=first|exact dd|fail) only [go_sem,seval]
      try exact LeV.refl _
    · have hil : i ≤ m.length:=hI.1
      have hi' : i < m.length:=by omega
      obtain ⟨f1,f2,f3⟩:=shr_fact (m.getD i 0) r (ld.getD i) hr32
      have gx:=ld.getD i
      have hlen:=hI.2.1
      have e32 : ((32 : Int) - (r : Int)).toNat = 32 - r:=by omega
      have m64 : min (32 - r) 64 = 32 - r:=by omega
      rcases i with _ | i
      · have hn:=hI.first ld hi'
        clear hI
        simp (disch:=first|exact dd|fail) only [go_sem,seval,u32s,lR,hq,hr,f1,f2,f3,min32]
        refine ⟨(1,_),hn,by show m.length - 1 < m.length - 0;omega, ?_, ?_⟩
        · simp (disch:=first|exact dd|fail) only [go_sem,seval,u32s]
        · simp (disch:=first|exact dd|fail) only [go_sem,seval,u32s]
          exact fun j hj => Le.of_eq (lR_set' (w:=w) (by omega))
      · obtain ⟨g1,g2,hn⟩:=hI.next ld hr32 hi'
        have hw:=hI.2.2.1.getD i
        have ho:=bits_or32 (w.getD i 0) (m.getD (i + 1) 0 * 2 ^ (32 - r) % 4294967296) hw (Nat.mod_lt _ (by omega))
        rw [g1] at ho
        have ei : (((i + 1 : Nat) : Int) - 1).toNat = i:=by omega
        have hne : i ≠ i + 1:=by omega
        clear hI
        simp (disch:=first|exact dd|fail) only [go_sem,seval,u32s,lR,hq,hr,f1,f2,f3,min32,m64,e32,ei,hne,ho]
        refine ⟨(i + 2,_),hn,by show m.length - (i + 2) < m.length - (i + 1);omega, ?_, ?_⟩
        · simp (disch:=first|exact dd|fail) only [go_sem,seval,u32s]
          exact LeV_int (by omega)
        · simp (disch:=first|exact dd|fail) only [go_sem,seval,u32s]
          exact fun j hj => Le.of_eq (lR_set2 (w:=w) (by omega) (by omega))
def gsG (v1 v2 x : Nat) : Nat → Nat → Nat → Nat
  | 0,g,_ => g
  | k + 1,g,r => if r < 4294967296 ∧ (4294967296 ≤ g ∨ r * 4294967296 + x < g * v2) then gsG v1 v2 x k (g - 1) (r + v1) else g
def GsP (V W v1 v2 U x : Nat) (s : Nat × Nat × Nat) : Prop:=s.2.1 * v1 + s.2.2 = U ∧ W < (s.2.1 + 1) * V ∧ 4294967296 ≤ s.2.2 + s.1 * 2147483648
theorem GsP.next {V W P v1 v2 U x : Nat} (G : Gue V W P v1 v2 U x) {k g r : Nat} (h : GsP V W v1 v2 U x (k,g,r)) (hc : r < 4294967296 ∧ (4294967296 ≤ g ∨ r * 4294967296 + x < g * v2)) :
    ∃ k',k = k' + 1 ∧ 0 < g ∧ GsP V W v1 v2 U x (k',g - 1,r + v1):=by
  obtain ⟨h1,h2,h3⟩:=h
  simp only at h1 h2 h3
  have hb:=G.big
  have hk : k ≠ 0:=fun e => by subst e;omega
  have hg : 0 < g:=by
    rcases Nat.eq_zero_or_pos g with e | e
    · subst e;simp at hc
    · exact e
  have hs:=G.step h1 hc.2
  obtain ⟨m,rfl⟩ : ∃ m,g = m + 1:=⟨g - 1,by omega⟩
  refine ⟨k - 1,by omega,hg, ?_,by simpa using hs, ?_⟩
  · show m * v1 + (r + v1) = U
    rw [Nat.add_mul,Nat.one_mul] at h1;omega
  · show 4294967296 ≤ r + v1 + (k - 1) * 2147483648
    omega
theorem gsG_t {v1 v2 x k g r : Nat} (hc : r < 4294967296 ∧ (4294967296 ≤ g ∨ r * 4294967296 + x < g * v2)) : gsG v1 v2 x (k + 1) g r = gsG v1 v2 x k (g - 1) (r + v1):=by rw [gsG,if_pos hc]
theorem gsG_f {v1 v2 x k g r : Nat} (hc : ¬ (r < 4294967296 ∧ (4294967296 ≤ g ∨ r * 4294967296 + x < g * v2))) : gsG v1 v2 x k g r = g:=by
  cases k with
  | zero => rfl
  | succ k => rw [gsG,if_neg hc]
theorem gsG_ok {V W P v1 v2 U x : Nat} (G : Gue V W P v1 v2 U x) : ∀ (k g r : Nat),GsP V W v1 v2 U x (k,g,r) → gsG v1 v2 x k g r < 4294967296 ∧ gsG v1 v2 x k g r * V < W + V ∧ W < (gsG v1 v2 x k g r + 1) * V
  | k,g,r,h => by
    by_cases hc : r < 4294967296 ∧ (4294967296 ≤ g ∨ r * 4294967296 + x < g * v2)
    · obtain ⟨k',rfl,hg,h'⟩:=h.next G hc
      rw [gsG_t hc]
      exact gsG_ok G k' _ _ h'
    · rw [gsG_f hc]
      obtain ⟨h1,h2,h3⟩:=h
      obtain ⟨f1,f2⟩:=G.fin h1 hc
      exact ⟨f1,f2,h2⟩
def gss (v1 v2 U x : Nat) : Nat:=gsG v1 v2 x 2 (U / v1) (U % v1)
theorem GsP.zero {V W P v1 v2 U x : Nat} (G : Gue V W P v1 v2 U x) : GsP V W v1 v2 U x (2,U / v1,U % v1):=by
  refine ⟨?_,G.inv0, ?_⟩
  · show U / v1 * v1 + U % v1 = U
    rw [Nat.mul_comm];exact Nat.div_add_mod U v1
  · show 4294967296 ≤ U % v1 + 2 * 2147483648
    omega
theorem gss_ok {V W P v1 v2 U x : Nat} (G : Gue V W P v1 v2 U x) : gss v1 v2 U x < 4294967296 ∧ gss v1 v2 U x * V < W + V ∧ W < (gss v1 v2 U x + 1) * V:=gsG_ok G _ _ _ (GsP.zero G)
theorem win_get {p w q : List Nat} {i : Nat} (h : i < w.length) : (p ++ w ++ q).getD (p.length + i) 0 = w.getD i 0:=by
  rw [List.getD_eq_getElem?_getD,List.append_assoc,List.getElem?_append_right (by omega),show p.length + i - p.length = i by omega,List.getElem?_append_left h,List.getD_eq_getElem?_getD]
theorem win_set {p w q : List Nat} {i d : Nat} (h : i < w.length) : (p ++ w ++ q).set (p.length + i) d = p ++ w.set i d ++ q:=by
  rw [List.append_assoc,List.set_append_right _ _ (by omega),show p.length + i - p.length = i by omega,List.set_append_left _ _ h,List.append_assoc]
def TkP (g : Nat) (w v : List Nat) (s : Nat × Nat × Nat × List Nat) : Prop:=s.1 ≤ v.length ∧ s.2.1 < 4294967296 ∧ s.2.2.1 ≤ 1 ∧ s.2.2.2.length = v.length + 1 ∧ lows s.2.2.2 ∧
  val (s.2.2.2.take s.1) + g * val (v.take s.1) = val (w.take s.1) + 4294967296 ^ s.1 * (s.2.1 + s.2.2.1) ∧ s.2.2.2.drop s.1 = w.drop s.1
theorem TkP.zero (g : Nat) {w v : List Nat} (lw : w.length = v.length + 1) (hw : lows w) : TkP g w v (0,0,0,w):=⟨Nat.zero_le _,by simp,by simp,lw,hw,by simp [val],rfl⟩
def tkD (g x y c b : Nat) : Nat:=(18446744073709551616 + x - b - (c + g * y) % 4294967296) % 4294967296
def tkB (g x y c b : Nat) : Nat:=if x < b + (c + g * y) % 4294967296 then 1 else 0
theorem TkP.next {g : Nat} {w v : List Nat} (hg : g < 4294967296) (hv : lows v) {i c b : Nat} {w' : List Nat} (h : TkP g w v (i,c,b,w')) (hi : i < v.length) :
    TkP g w v (i + 1,(c + g * v.getD i 0) / 4294967296,tkB g (w'.getD i 0) (v.getD i 0) c b,w'.set i (tkD g (w'.getD i 0) (v.getD i 0) c b)):=by
  obtain ⟨h1,h2,h3,h4,h5,h6,h7⟩:=h
  simp only at h1 h2 h3 h4 h5 h6 h7
  have hw:=getD_of_drop h7
  have g1:=h5.getD i
  have g2:=hv.getD i
  have hd : tkD g (w'.getD i 0) (v.getD i 0) c b < 4294967296:=Nat.mod_lt _ (by omega)
  have key:=take_step (g:=g) (x:=w'.getD i 0) (y:=v.getD i 0) (c:=c) (b:=b) (d:=tkD g (w'.getD i 0) (v.getD i 0) c b) (b':=tkB g (w'.getD i 0) (v.getD i 0) c b) hg g1 g2 h2 h3 (by
    unfold tkD tkB
    have hm : (c + g * v.getD i 0) % 4294967296 < 4294967296:=Nat.mod_lt _ (by omega)
    generalize (c + g * v.getD i 0) % 4294967296 = m at *
    generalize w'.getD i 0 = x at *
    clear h6 h7 hw hd
    split <;> omega) hd
  obtain ⟨k1,k2,k3⟩:=key
  rw [hw] at k1
  have hst:=tk_step (w:=w) (w':=w') (v:=v) (g:=g) (i:=i) (by omega) h7 h6 (d:=tkD g (w'.getD i 0) (v.getD i 0) c b) (b':=tkB g (w'.getD i 0) (v.getD i 0) c b) (c':=(c + g * v.getD i 0) / 4294967296) (by rw [hw];exact k1)
  exact ⟨hi,k2,k3,by simp only [List.length_set];exact h4,lows_set h5 hd,hst.1,hst.2⟩
theorem TkP.fin {g : Nat} {w v : List Nat} (lw : w.length = v.length + 1) {c b : Nat} {w' : List Nat} (h : TkP g w v (v.length,c,b,w')) :
    let d:=(18446744073709551616 + w'.getD v.length 0 - b - c) % 4294967296
    let neg:=if w'.getD v.length 0 < b + c then 1 else 0
    d < 4294967296 ∧ (w'.set v.length d).length = w.length ∧ lows (w'.set v.length d) ∧ val (w'.set v.length d) + g * val v = val w + 4294967296 ^ (v.length + 1) * neg:=by
  obtain ⟨h1,h2,h3,h4,h5,h6,h7⟩:=h
  simp only at h1 h2 h3 h4 h5 h6 h7
  intro d neg
  have hw:=getD_of_drop h7
  have g1:=h5.getD v.length
  have hd : d < 4294967296:=Nat.mod_lt _ (by omega)
  refine ⟨hd,by rw [List.length_set];omega,lows_set h5 hd, ?_⟩
  refine tk_fin lw h4 rfl h6 ?_
  rw [← hw]
  show (18446744073709551616 + w'.getD v.length 0 - b - c) % 4294967296 + (c + b) = w'.getD v.length 0 + 4294967296 * (if w'.getD v.length 0 < b + c then 1 else 0)
  generalize w'.getD v.length 0 = x at *
  clear h6 h7 hw hd
  split <;> omega
def AdP (w v : List Nat) (s : Nat × Nat × List Nat) : Prop:=s.1 ≤ v.length ∧ s.2.1 ≤ 1 ∧ s.2.2.length = v.length + 1 ∧ lows s.2.2 ∧
  val (s.2.2.take s.1) + 4294967296 ^ s.1 * s.2.1 = val (w.take s.1) + val (v.take s.1) ∧ s.2.2.drop s.1 = w.drop s.1
theorem AdP.zero {w v : List Nat} (lw : w.length = v.length + 1) (hw : lows w) : AdP w v (0,0,w):=⟨Nat.zero_le _,by simp,lw,hw,by simp [val],rfl⟩
theorem AdP.next {w v : List Nat} (hv : lows v) {i c : Nat} {w' : List Nat} (h : AdP w v (i,c,w')) (hi : i < v.length) :
    AdP w v (i + 1,(c + (w'.getD i 0 + v.getD i 0)) / 4294967296,w'.set i ((c + (w'.getD i 0 + v.getD i 0)) % 4294967296)):=by
  obtain ⟨h1,h2,h3,h4,h5,h6⟩:=h
  simp only at h1 h2 h3 h4 h5 h6
  have hw:=getD_of_drop h6
  have g1:=h4.getD i
  have g2:=hv.getD i
  have hst:=ad_step (w:=w) (w':=w') (v:=v) (i:=i) (by omega) h6 h5 (d:=(c + (w'.getD i 0 + v.getD i 0)) % 4294967296) (c':=(c + (w'.getD i 0 + v.getD i 0)) / 4294967296) (by
    rw [← hw]
    clear h5 h6
    generalize w'.getD i 0 = x at *
    generalize v.getD i 0 = y at *
    clear hw
    omega)
  refine ⟨hi, ?_,by simp only [List.length_set];exact h3,lows_set h4 (Nat.mod_lt _ (by omega)),hst.1,hst.2⟩
  show (c + (w'.getD i 0 + v.getD i 0)) / 4294967296 ≤ 1
  clear h5 h6 hst
  omega
theorem AdP.fin {w v : List Nat} (lw : w.length = v.length + 1) {c : Nat} {w' : List Nat} (h : AdP w v (v.length,c,w')) :
    (w'.set v.length ((w'.getD v.length 0 + c) % 4294967296)).length = w.length ∧ lows (w'.set v.length ((w'.getD v.length 0 + c) % 4294967296)) ∧
      val (w'.set v.length ((w'.getD v.length 0 + c) % 4294967296)) + 4294967296 ^ (v.length + 1) * ((w'.getD v.length 0 + c) / 4294967296) = val w + val v:=by
  obtain ⟨h1,h2,h3,h4,h5,h6⟩:=h
  simp only at h1 h2 h3 h4 h5 h6
  have hw:=getD_of_drop h6
  refine ⟨by rw [List.length_set];omega,lows_set h4 (Nat.mod_lt _ (by omega)),ad_fin lw h3 rfl h5 ?_⟩
  rw [← hw]
  generalize w'.getD v.length 0 = x at *
  clear h5 h6 hw
  omega
def LongP (u v : List Nat) (k : Nat) (u' q : List Nat) : Prop:=u'.length = u.length ∧ lows u' ∧ lows q ∧ q.length + v.length = u.length ∧ val (u'.drop k) < val v ∧ val u = val u' + 4294967296 ^ k * (val v * val (q.drop k))
theorem val_getD_drop {l : List Nat} {k : Nat} (h : k < l.length) : val (l.drop k) = l.getD k 0 + 4294967296 * val (l.drop (k + 1)):=by
  rw [List.drop_eq_getElem_cons h,val,List.getD_eq_getElem?_getD,List.getElem?_eq_getElem h];rfl
theorem val_high {l : List Nat} {n : Nat} (h : val l < 4294967296 ^ n) (hn : n ≤ l.length) : val (l.drop n) = 0:=by
  have:=val_cut l n hn
  rcases Nat.eq_zero_or_pos (val (l.drop n)) with e | e
  · exact e
  · have h2 : 4294967296 ^ n * 1 ≤ 4294967296 ^ n * val (l.drop n):=Nat.mul_le_mul_left _ e
    omega
theorem LongP.parts {u v : List Nat} (hv : lows v) {j : Nat} {u' q : List Nat} (h : LongP u v (j + 1) u' q) (hj : j < q.length) :
    ∃ p w r,u' = p ++ w ++ r ∧ p.length = j ∧ w.length = v.length + 1 ∧ lows w ∧ val r = 0 ∧ val w < 4294967296 * val v ∧ lows p ∧ lows r:=by
  obtain ⟨h1,h2,h3,h4,h5,h6⟩:=h
  have hlen : j + 1 + v.length ≤ u'.length:=by omega
  have hz : val (u'.drop (j + 1 + v.length)) = 0:=by
    rw [← List.drop_drop]
    exact val_high (Nat.lt_trans h5 (val_ltB hv)) (by rw [List.length_drop];omega)
  refine ⟨u'.take j,(u'.drop j).take (v.length + 1),u'.drop (j + 1 + v.length), ?_,by rw [List.length_take];omega,by rw [List.length_take,List.length_drop];omega,lows_take (lows_drop h2 j) _,hz, ?_,lows_take h2 j,lows_drop h2 _⟩
  · rw [List.append_assoc,show j + 1 + v.length = j + (v.length + 1) by omega,← List.drop_drop,List.take_append_drop,List.take_append_drop]
  · have e1:=val_cut (u'.drop j) (v.length + 1) (by rw [List.length_drop];omega)
    rw [List.drop_drop,show j + (v.length + 1) = j + 1 + v.length by omega,hz,Nat.mul_zero,Nat.add_zero] at e1
    rw [← e1,val_getD_drop (by omega)]
    have g:=h2.getD j
    generalize val (u'.drop (j + 1)) = a at *
    generalize val v = b at *
    clear h6
    omega
theorem LongP.next {u v : List Nat} {j g : Nat} {p w w1 r q : List Nat} (h : LongP u v (j + 1) (p ++ w ++ r) q) (hp : p.length = j) (hw : w.length = v.length + 1) (hw1 : w1.length = w.length) (l1 : lows w1) (hr : val r = 0) (hj : j < q.length) (hg : g < 4294967296)
    (e1 : val w / val v = g) (e2 : val w % val v = val w1) (hv : 0 < val v) : LongP u v j (p ++ w1 ++ r) (q.set j g):=by
  subst hp
  obtain ⟨h1,h2,h3,h4,h5,h6⟩:=h
  have lp : lows p:=fun x hx => h2 x (by simp [hx])
  have lr : lows r:=fun x hx => h2 x (by simp [hx])
  refine ⟨by rw [← h1];simp [hw1],lows_app (lows_app lp l1) lr,lows_set h3 hg,by rw [List.length_set];exact h4, ?_, ?_⟩
  · rw [List.append_assoc,List.drop_append_of_le_length (by omega),List.drop_length,List.nil_append,val_append,hr,Nat.mul_zero,Nat.add_zero,← e2]
    exact Nat.mod_lt _ hv
  · rw [h6]
    have ha : ∀ z : List Nat,val (p ++ z ++ r) = val p + 4294967296 ^ p.length * val z:=fun z => by
      rw [List.append_assoc,val_append,val_append,hr,Nat.mul_zero,Nat.add_zero]
    rw [ha,ha]
    have hq : val ((q.set p.length g).drop p.length) = g + 4294967296 * val (q.drop (p.length + 1)):=by
      rw [val_getD_drop (by rw [List.length_set];exact hj),set_drop,List.getD_eq_getElem?_getD,List.getElem?_set_self hj];rfl
    rw [hq,Nat.pow_succ]
    have e3:=Nat.div_add_mod (val w) (val v)
    rw [e1,e2] at e3
    rw [← e3]
    generalize val (q.drop (p.length + 1)) = a
    generalize 4294967296 ^ p.length = b
    generalize val v = c
    generalize val w1 = d
    generalize val p = e
    rw [Nat.mul_assoc b,Nat.mul_left_comm 4294967296 c a]
    simp only [Nat.mul_add]
    omega
theorem LongP.fin {u v u' q : List Nat} (h : LongP u v 0 u' q) : val q = val u / val v ∧ val u' = val u % val v:=by
  obtain ⟨h1,h2,h3,h4,h5,h6⟩:=h
  rw [List.drop_zero] at h5 h6
  rw [Nat.pow_zero,Nat.one_mul] at h6
  have hpos : 0 < val v:=by omega
  rw [h6,Nat.add_mul_div_left _ _ hpos,Nat.add_mul_mod_self_left,Nat.div_eq_of_lt h5,Nat.mod_eq_of_lt h5]
  exact ⟨by omega,rfl⟩
theorem LongP.zero {u v : List Nat} (hu : lows u) {m : Nat} (hm : m + v.length = u.length) (h : val (u.drop m) < val v) : LongP u v m u (List.replicate m 0):=
  ⟨rfl,hu,lows_rep _,by simp;exact hm,h,by rw [List.drop_replicate,Nat.sub_self];simp [val]⟩
end Go.Proofs.YtakaojkfipnfcaaGreatDoor.Lv
