/- The program's numbers: short and cut of a row's first limbs; Reverse. The program's numbers: Text. Texts of whole numbers and quotients, the program's and the document's. Numbers as bytes. Monomials: the small functions of Go's library. Monomials: degrees. Monomials: the order. Monomials: arrays compared. Monomials: which one is less. Monomials: products, and what goes into what. Monomials: the order's laws. slices.Backward: its function calls yield with each element, the last one first. Monomials: the last variable. -/
import Derived.Test.YtakaojkfipnfcaaGreatDoorG19
import Derived.Test.YtakaojkfipnfcaaGreatDoorG12
import Derived.Test.YtakaojkfipnfcaaGreatDoorG10
import Derived.Test.YtakaojkfipnfcaaGreatDoorG09
import Derived.RangeFuncNested
import Derived.RangeFuncBound
import Derived.RangeFuncCalls
import Derived.RangeFuncLeaves
import Derived.Shelf.Abstract
import Derived.Shelf.RegionOpen
import Derived.WalkKit
import Derived.OwnWalkIn
import Derived.TacticsInMore
import Derived.LoopNIn
import Derived.LoopIn
import Derived.Lib.Hide
set_option linter.unusedVariables false
set_option linter.unusedSimpArgs false
set_option maxRecDepth 100000
set_option maxHeartbeats 4000000
namespace Go.Proofs.YtakaojkfipnfcaaGreatDoor.Lv
open Go Go.RowKit
theorem backward_ownN (n N v : Nat) (hN : n ≤ N) (f : Nat → D) : CG E 178 [.sl 0 v 0 n] [(0, .row false v false 1 N f)] (.fn 195 [.ad 1 0]) [(0, .row false v false 1 N f),(1, .var false 1 (.sl 0 v 0 n))]:=by
  refine CG_intro Tryz.func178 rfl (by kernel_rfl) rfl (by kernel_rfl) (by kernel_rfl) rfl ?_
  simp (disch:=first|exact dd|fail) only [go_sem,seval]
  try exact fun _ _ => trivial
def shRowN (q : Nat) (l t : List Nat) (k : Nat) : List Nat:=shRow q l k ++ t
theorem shRowN_len (q : Nat) (l t : List Nat) (k : Nat) : (shRowN q l t k).length = l.length + t.length:=by rw [shRowN,List.length_append,shRow_len]
theorem shRowN_at (q : Nat) {l t : List Nat} {k : Nat} (hk : k < l.length) : (shRowN q l t (k + 1)).getD k 0 = l.getD k 0:=by
  rw [← shRow_at q hk,shRowN,List.getD_eq_getElem?_getD,List.getElem?_append_left (by rw [shRow_len];exact hk),← List.getD_eq_getElem?_getD]
theorem shRowN_step (q : Nat) {l t : List Nat} {k : Nat} (hk : k < l.length) : shRowN q l t k = (shRowN q l t (k + 1)).set k (((sdiv q (l.drop (k + 1))).2 * 4294967296 + l.getD k 0) / q):=by
  rw [shRowN,shRowN,List.set_append_left _ _ (by rw [shRow_len];exact hk),← shRow_step q hk]
theorem nat_shortN {l t : List Nat} {N : Nat} (hN : N = l.length + t.length) (hl : lows l) (hn : N < 1073741824) {q : Nat} (hq0 : 0 < q) (hq : q < 4294967296) (v : Nat) : CG E 149 [.sl 0 v 0 l.length, .int .u32 q] [(0, .row false v false 1 N (lR (l ++ t)))]
    (.int .u32 (sdiv q l).2) [(0, .row false v false 1 N (lR ((sdiv q l).1 ++ t)))]:=by
  refine CG_intro Tryz.func149 rfl (by kernel_rfl) rfl (by kernel_rfl) (by kernel_rfl) rfl ?_
  simp (disch:=first|exact dd|fail) only [go_sem,seval]
  refine callG [0] (backward_ownN l.length N v (by omega) (lR (l ++ t))) rfl (by simp (disch:=first|exact dd|fail) only [go_sem,seval]) ?_ ?_ ?_
  · simp (disch:=first|exact dd|fail) only [go_sem,seval]
  · simp (disch:=first|exact dd|fail) only [go_sem,seval]
  simp (disch:=first|exact dd|fail) only [go_sem,seval]
  refine AB.of 195 5 (fun k : Nat => k ≤ l.length) (fun k => k) (fun _ => [(2, .ad 1 0),(3, .ad 2 0),(5, .ad 3 0),(9, .fn 195 [.ad 5 0])])
    (fun k => [(5, .var false 1 (.sl 0 v 0 l.length)),(3, .var false 1 (.int .u64 (((sdiv q (l.drop k)).2 : Nat) : Int))),(2, .var false 1 (.int .u32 q)),(1, .var false 1 (.sl 0 v 0 l.length)),(0, .row false v false 1 N (lR (shRowN q l t k)))]) l.length bw_u32 (Nat.le_refl _) ?_ ?_ ?_ (y:=.sl 0 v 0 l.length) ?_ ?_ (by omega) ?_ ?_ ?_
  · simp (disch:=first|exact dd|fail) only [go_sem,seval]
  · have e0 : (sdiv q (l.drop l.length)).2 = 0:=by rw [List.drop_length];rfl
    have e1 : shRowN q l t l.length = l ++ t:=by rw [shRowN,shRow,List.drop_length,List.take_length];rw [show (sdiv q ([] : List Nat)).1 = [] from rfl,List.append_nil]
    rw [e0,e1]
    simp (disch:=first|exact dd|fail) only [go_sem,seval]
    try exact fun _ _ => trivial
  · simp (disch:=first|exact dd|fail) only [go_sem,seval]
  · simp (disch:=first|exact dd|fail) only [go_sem,seval]
  · simp (disch:=first|exact dd|fail) only [go_sem,seval]
  · intro x' _;simp (disch:=first|exact dd|fail) only [go_sem,seval]
  · rintro x' h rfl
    have e1 : shRowN q l t 0 = (sdiv q l).1 ++ t:=by rw [shRowN,shRow,List.drop_zero,List.take_zero,List.nil_append]
    rw [List.drop_zero,e1]
    have r1:=sdiv_rem hq0 l
    simp (disch:=first|exact dd|fail) only [go_sem,seval]
    try exact fun _ _ => trivial
  · rintro x' k hk1 hk rfl
    have g1:=hl.getD k
    have r1:=sdiv_rem hq0 (l.drop (k + 1))
    have hat:=shRowN_at q (t:=t) hk
    have hst:=shRowN_step q (t:=t) hk
    have hrow:=fun (d j : Nat) => lR_set' (w:=shRowN q l t (k + 1)) (i:=k) (d:=d) (j:=j) (by rw [shRowN_len];omega)
    have hs2 : (sdiv q (l.drop k)).2 = ((sdiv q (l.drop (k + 1))).2 * 4294967296 + l.getD k 0) % q:=by rw [lim_drop hk];rfl
    have eo:=or_up (sdiv q (l.drop (k + 1))).2 (l.getD k 0) (by omega) g1
    have hd:=sdiv_low hq0 (l:=l.drop k) (fun y hy => hl y (List.mem_of_mem_drop hy)) (((sdiv q (l.drop (k + 1))).2 * 4294967296 + l.getD k 0) / q) (by rw [lim_drop hk];exact List.mem_cons_self)
    have hm : ((sdiv q (l.drop (k + 1))).2 * 4294967296 + l.getD k 0) % q < q:=Nat.mod_lt _ hq0
    refine ⟨.sl 0 v 0 l.length, .int .u32 ((l.getD k 0 : Nat) : Int),rfl, ?_, ?_⟩
    · simp [elt]
      show (if v = v ∧ 1 = 1 ∧ k < l.length then some (lR (shRowN q l t (k + 1)) k) else none) = _
      rw [if_pos ⟨rfl,rfl,hk⟩,lR,hat,List.getD_eq_getElem?_getD]
    generalize hR : (sdiv q (l.drop (k + 1))).2 = R at *
    generalize hX : l.getD k 0 = X at *
    have htd : (((R * 4294967296 + X : Nat) : Int)).tdiv (q : Int) = (((R * 4294967296 + X) / q : Nat) : Int):=(Int.ofNat_tdiv _ _).symm
    have htm : (((R * 4294967296 + X : Nat) : Int)).tmod (q : Int) = (((R * 4294967296 + X) % q : Nat) : Int):=(Int.ofNat_tmod _ _).symm
    generalize (R * 4294967296 + X) / q = Dv at *
    generalize (R * 4294967296 + X) % q = Mv at *
    simp (disch:=first|exact dd|fail) only [go_sem,seval,eo,htd,htm,hR]
    refine BGo.of k (by simp (disch:=first|exact dd|fail) only [go_sem,seval]) (by omega) rfl (by simp [mx]) ?_ ?_
    · simp (disch:=first|exact dd|fail) only [go_sem,seval]
    · simp (disch:=first|exact dd|fail) only [go_sem,seval,hs2,hst,hrow]
      try exact fun _ _ => trivial
theorem nat_cutN {l : List Nat} (hl : lows l) {N : Nat} (hn : l.length ≤ N) (hN : N < 4611686018427387904) (ver : Nat) {f : Nat → D} (hf : ∀ i,i < l.length → f i = .int .u32 ((l.getD i 0 : Nat) : Int)) :
    CG E 150 [.sl 0 ver 0 l.length] [(0, .row false ver false 1 N f)] (.agg [.sl 0 ver 0 (nb (val l))]) [(0, .row false ver false 1 N f)]:=by
  refine CG_intro Tryz.func150 rfl (by kernel_rfl) rfl (by kernel_rfl) (by kernel_rfl) rfl ?_
  simp (disch:=first|exact dd|fail) only [go_sem,seval]
  refine AL.of (fun k : Nat => k ≤ l.length ∧ val (l.take k) = val l) (fun k => k) (fun k => [(0, .sl 0 ver 0 k),(2, .ad 1 0)]) (fun _ => [(0, .row false ver false 1 N f),(1, .var true 1 (.agg [.nils]))]) l.length ⟨by omega,by simp⟩ ?_ ?_ ?_ ?_
  · simp (disch:=first|exact dd|fail) only [go_sem,seval]
  · simp (disch:=first|exact dd|fail) only [go_sem,seval]
    try exact fun _ _ => trivial
  · intro x _;simp (disch:=first|exact dd|fail) only [go_sem,seval]
  rintro k ⟨h1,h2⟩
  have fin : (∀ j,j + 1 = k → l.getD j 0 ≠ 0) → nb (val l) = k:=fun h3 => by
    have e:=cut_fin hl h1 h2 h3
    rw [nb,e,List.length_take];omega
  by_cases hk : 0 < k
  · obtain ⟨j,rfl⟩ : ∃ j,k = j + 1:=⟨k - 1,by omega⟩
    have ej : (((j + 1 : Nat) : Int) - 1).toNat = j:=by omega
    have hfj:=hf j (by omega)
    by_cases h0 : l.getD j 0 = 0
    · simp (disch:=first|exact dd|fail) only [go_sem,seval,ej,hfj]
      refine ⟨j,⟨by omega,by rw [← val_take (by omega) h0];exact h2⟩,Nat.lt_succ_self j, ?_, ?_⟩
      · simp (disch:=first|exact dd|fail) only [go_sem,seval]
      · simp (disch:=first|exact dd|fail) only [go_sem,seval]
        try exact fun _ _ => trivial
    · have hq:=fin fun j' hj' => by
        obtain rfl : j' = j:=by omega
        exact h0
      rw [hq]
      simp (disch:=first|exact dd|fail) only [go_sem,seval,ej,hfj]
      try exact fun _ _ => trivial
  · obtain rfl : k = 0:=by omega
    have hq:=fin fun j hj => by omega
    rw [hq]
    simp (disch:=first|exact dd|fail) only [go_sem,seval]
    try exact fun _ _ => trivial
theorem getD_app {w z : List UInt8} {i : Nat} (h : i < w.length) : (w ++ z).getD i 0 = w.getD i 0:=by
  rw [List.getD_eq_getElem?_getD,List.getElem?_append_left h,← List.getD_eq_getElem?_getD]
theorem slices_Reverse (s z : List UInt8) (v N : Nat) (hN : N = s.length + z.length) (hs : N < 4611686018427387904) :
    CG E 151 [.sl 0 v 0 s.length] [(0, .row false v false 1 N (bR (s ++ z)))] (.tup []) [(0, .row false v false 1 N (bR (s.reverse ++ z)))]:=by
  refine CG_intro Tryz.func151 rfl (by kernel_rfl) rfl (by kernel_rfl) (by kernel_rfl) rfl ?_
  simp (disch:=first|exact dd|fail) only [go_sem,seval]
  refine AL.of (RvP s) (fun x => s.length / 2 - x.1) (fun x => [(0, .sl 0 v 0 s.length),(2, .int .i64 x.1),(3, .int .i64 ((s.length : Int) - 1 - x.1))]) (fun x => [(0, .row false v false 1 N (bR (x.2 ++ z)))]) (0,s)
    ⟨Nat.zero_le _,rfl,fun j hj => by rw [if_neg (by simp only;omega)]⟩ ?_ ?_ ?_ ?_
  · simp (disch:=first|exact dd|fail) only [go_sem,seval]
    try exact LeV_int (by omega)
  · simp (disch:=first|exact dd|fail) only [go_sem,seval]
    try exact fun _ _ => trivial
  · intro x _;simp (disch:=first|exact dd|fail) only [go_sem,seval]
  rintro ⟨i,w⟩ hR
  have hi : i ≤ s.length / 2:=hR.1
  have hwl : w.length = s.length:=hR.2.1
  by_cases hil : i = s.length / 2
  · subst hil
    rw [← hR.fin]
    clear hR
    have hd : decide (((s.length / 2 : Nat) : Int) < (s.length : Int) - 1 - ((s.length / 2 : Nat) : Int)) = false:=decide_eq_false (by omega)
    simp (disch:=first|exact dd|fail) only [go_sem,seval,hd]
    try exact fun _ _ => trivial
  · have hil' : i < s.length / 2:=by omega
    have hnx:=hR.next hil'
    have e1 : ((s.length : Int) - 1 - (i : Int)).toNat = s.length - 1 - i:=by omega
    have e2 : ((i : Nat) : Int).toNat = i:=by omega
    have hd : decide ((i : Int) < (s.length : Int) - 1 - (i : Int)) = true:=decide_eq_true (by omega)
    have b1 : ∀ c j,(if j = i then D.int .u8 ((c : UInt8).toNat : Int) else bR (w ++ z) j) = bR ((w ++ z).set i c) j:=fun c j => bR_set (by rw [List.length_append];omega) j
    have g1 : (w ++ z).getD (s.length - 1 - i) 0 = w.getD (s.length - 1 - i) 0:=getD_app (by omega)
    have g2 : (w ++ z).getD i 0 = w.getD i 0:=getD_app (by omega)
    have h1 : (w ++ z).set i (w.getD (s.length - 1 - i) 0) = w.set i (w.getD (s.length - 1 - i) 0) ++ z:=List.set_append_left _ _ (by omega)
    have h2 : (w.set i (w.getD (s.length - 1 - i) 0) ++ z).set (s.length - 1 - i) (w.getD i 0) = (w.set i (w.getD (s.length - 1 - i) 0)).set (s.length - 1 - i) (w.getD i 0) ++ z:=List.set_append_left _ _ (by rw [List.length_set];omega)
    clear hR
    simp (disch:=first|exact dd|fail) only [go_sem,seval,e1,e2,hd]
    refine ⟨rfl,rfl,rfl,rfl, ?_⟩
    refine ⟨_,hnx,by show s.length / 2 - (i + 1) < s.length / 2 - i;omega, ?_, ?_⟩
    · simp (disch:=first|exact dd|fail) only [go_sem,seval]
      try exact ⟨LeV_int (by omega),LeV_int (by omega)⟩
    · simp (disch:=first|exact dd|fail) only [go_sem,seval]
      intro j hj
      rw [← h2,← bR_set (w:=w.set i (w.getD (s.length - 1 - i) 0) ++ z) (i:=s.length - 1 - i) (c:=w.getD i 0) (by rw [List.length_append,List.length_set];omega) j,← h1,← b1,← g1,← g2]
      exact Le.refl _
def TxP (n N : Nat) (s : Nat × List Nat × Nat) : Prop:=nb s.1 + s.2.1.length = N ∧ s.1 = n / 10 ^ s.2.2 ∧ s.2.2 ≤ 32 * nb n + 9
theorem lowd_snoc (j n : Nat) : lowd (j + 1) n = lowd j n ++ [dg (n / 10 ^ j % 10)]:=by
  rw [lowd_add j 1];rfl
theorem TxP.dig {n N m j : Nat} {t : List Nat} (h : TxP n N (m,t,j)) {i : Nat} (hi : i < 9) : m % 1000000000 / 10 ^ i % 10 = n / 10 ^ (j + i) % 10:=by
  have h2 : m = n / 10 ^ j:=h.2.1
  rw [Nat.pow_add,← Nat.div_div_eq_div_mul,← h2]
  rcases i with _ | _ | _ | _ | _ | _ | _ | _ | _ | i
  all_goals first
    | omega
    | (simp only [Nat.reduceAdd,Nat.reducePow,Nat.zero_add];omega)
theorem TxP.next {n N m j : Nat} {t : List Nat} (h : TxP n N (m,t,j)) (h0 : m ≠ 0) :
    TxP n N (m / 1000000000,(sdiv 1000000000 (limbs m)).1.drop (nb (m / 1000000000)) ++ t,j + 9) ∧ (sdiv 1000000000 (limbs m)).2 = m % 1000000000 ∧ (sdiv 1000000000 (limbs m)).1 ++ t = limbs (m / 1000000000) ++ ((sdiv 1000000000 (limbs m)).1.drop (nb (m / 1000000000)) ++ t) ∧ val (sdiv 1000000000 (limbs m)).1 = m / 1000000000 ∧ lows (sdiv 1000000000 (limbs m)).1 ∧ m / 1000000000 < m ∧ (sdiv 1000000000 (limbs m)).1.length = nb m:=by
  obtain ⟨h1,h2,h3⟩:=h
  simp only at h1 h2 h3
  have hj : j < 32 * nb n:=by
    have a1 : 10 ^ j ≤ n:=by
      refine Nat.le_of_not_lt fun hlt => h0 ?_
      rw [h2,Nat.div_eq_of_lt hlt]
    have a2:=(nb_lt (n:=n) (k:=nb n)).1 (Nat.le_refl _)
    have a3 : 2 ^ j ≤ 10 ^ j:=Nat.pow_le_pow_left (by omega) _
    have a4 : (4294967296 : Nat) ^ nb n = 2 ^ (32 * nb n):=by rw [Nat.pow_mul]
    rw [a4] at a2
    exact (Nat.pow_lt_pow_iff_right (a:=2) (by omega)).1 (Nat.lt_of_le_of_lt (Nat.le_trans a3 a1) a2)
  have hv:=sdiv_val (q:=1000000000) (by omega) (limbs m)
  have hr:=sdiv_rem (q:=1000000000) (by omega) (limbs m)
  have hl:=sdiv_low (q:=1000000000) (by omega) (limbs_low m)
  have hn:=sdiv_len 1000000000 (limbs m)
  rw [val_limbs] at hv
  have e1 : val (sdiv 1000000000 (limbs m)).1 = m / 1000000000:=by omega
  have e2 : (sdiv 1000000000 (limbs m)).2 = m % 1000000000:=by omega
  obtain ⟨p1,p2⟩:=limbs_pre hl
  rw [e1] at p1 p2
  have hnb : (limbs m).length = nb m:=rfl
  refine ⟨⟨?_, ?_,by show j + 9 ≤ _;omega⟩,e2, ?_,e1,hl,by omega,by omega⟩
  · simp only [List.length_append,List.length_drop]
    omega
  · simp only
    rw [Nat.pow_add,← Nat.div_div_eq_div_mul,← h2]
  · rw [← List.append_assoc]
    congr 1
    rw [← p1,List.take_append_drop]
theorem clone_u32_nil : C E 148 [u32s []] (u32s []):=by
  refine CG_intro Tryz.func148 rfl (by kernel_rfl) rfl (by kernel_rfl) (by kernel_rfl) rfl ?_
  simp (disch:=first|exact dd|fail) only [go_sem,seval,u32s]
  intro b hb
  cases b with
  | false =>
    rw [KE_eq]
    simp (disch:=first|exact dd|fail) only [go_sem,seval]
    exact ⟨.inl trivial, .inr trivial,LeV.ro rfl fun i hi => absurd hi (by omega)⟩
  | true =>
    rw [KE_eq]
    simp (disch:=first|exact dd|fail) only [go_sem,seval]
    exact LeV.nils
theorem u8_ne48 {c : UInt8} (h : c ≠ 48) : ((c.toNat : Int) == 48) = false:=
  beq_eq_false_iff_ne.2 fun e => h (UInt8.toNat_inj.1 (show c.toNat = 48 by omega))
theorem nat_Text {n : Nat} (hn : nb n < 60000000) : C E 108 [natD n] (.str (dec n)):=by
  refine CG_intro Tryz.func108 rfl (by kernel_rfl) rfl (by kernel_rfl) (by kernel_rfl) rfl ?_
  have hlb : (limbs n).length = nb n:=rfl
  by_cases h0 : n = 0
  · subst h0
    have e : dec 0 = [48]:=rfl
    rw [e,natD_u32s,limbs_zero]
    simp (disch:=first|exact dd|fail) only [go_sem,seval]
    refine cA clone_u32_nil ?_
    simp (disch:=first|exact dd|fail) only [go_sem,seval,u32s]
    refine AL.step ?_
    simp (disch:=first|exact dd|fail) only [go_sem,seval,u32s]
    refine AL.step ?_
    simp (disch:=first|exact dd|fail) only [go_sem,seval,u32s]
    try exact LeV.refl _
  · have hp : 0 < (limbs n).length:=limbs_ne h0
    have e : dec n = (rdec n).reverse:=by rw [dec,if_neg h0]
    rw [e,natD_u32s]
    simp (disch:=first|exact dd|fail) only [go_sem,seval]
    refine callN (clone_u32 (l:=limbs n) (List.length_pos_iff.1 hp) (by omega)) ?_ ?_
    · simp (disch:=first|exact dd|fail) only [go_sem,seval]
      try exact LesV.refl _
    simp (disch:=first|exact dd|fail) only [go_sem,seval]
    refine AL.ofN 4 false 1 (fun _ => .unk) (TxP n (nb n)) (fun s => s.1) (fun s => [(3, .sl 1 1 0 (nb s.1)),(4, .sl 2 s.2.2 0 s.2.2)])
      (fun s => [(1, .row false 1 false 1 (nb n) (lR (limbs s.1 ++ s.2.1))),(2, .row false s.2.2 false 1 s.2.2 (bR (lowd s.2.2 n)))]) (n,[],0) (by simp (disch:=first|exact dd|fail) only [go_sem,seval]) ⟨rfl,by simp,Nat.zero_le _⟩ ?_ ?_ ?_ ?_
    · simp (disch:=first|exact dd|fail) only [go_sem,seval,hlb]
      try exact LesV.refl _
    · simp (disch:=first|exact dd|fail) only [go_sem,seval,hlb]
      exact ⟨fun _ _ => trivial,fun i hi => absurd hi (by omega)⟩
    · intro x _;simp (disch:=first|exact dd|fail) only [go_sem,seval]
    rintro ⟨m,t,j⟩ hP
    by_cases hm : m = 0
    · subst hm
      have hf : 0 = n / 10 ^ j:=hP.2.1
      have hjb : j ≤ 32 * nb n + 9:=hP.2.2
      have hnj : n < 10 ^ j:=by
        have:=(Nat.div_eq_zero_iff (a:=n) (b:=10 ^ j)).1 hf.symm
        rcases this with h | h
        · exact absurd h (by have:=Nat.pow_pos (n:=j) (show 0 < 10 by omega);omega)
        · exact h
      obtain ⟨z,hz⟩:=lowd_rdec j n hnj
      have hjl : j = (rdec n).length + z:=by
        have:=congrArg List.length hz
        rw [lowd_len,List.length_append,List.length_replicate] at this;exact this
      have hl0 : nb 0 = 0:=by unfold nb;rw [limbs_zero];rfl
      have hsn : (rdec n).length ≠ 0:=by rw [rdec_pos h0];simp
      have hla:=rdec_last (n:=n)
      clear hP hf hnj
      generalize hlo : lowd j n = lo at *
      subst hz
      generalize rdec n = s at *
      simp (disch:=first|exact dd|fail) only [go_sem,seval,hl0]
      refine AL.of (fun k : Nat => s.length ≤ k ∧ k ≤ j) (fun k => k) (fun k => [(4, .sl 2 j 0 k)]) (fun _ => [(2, .row false j false 1 j (bR (s ++ List.replicate z 48)))]) j ⟨by omega,Nat.le_refl _⟩ ?_ ?_ ?_ ?_
      · simp (disch:=first|exact dd|fail) only [go_sem,seval]
        try exact LeV.refl _
      · simp (disch:=first|exact dd|fail) only [go_sem,seval]
        try exact fun _ _ => trivial
      · intro x _;simp (disch:=first|exact dd|fail) only [go_sem,seval]
      rintro k ⟨hk1,hk2⟩
      obtain ⟨i,rfl⟩ : ∃ i,k = i + 1:=⟨k - 1,by omega⟩
      have ei : (((i + 1 : Nat) : Int) - 1).toNat = i:=by omega
      by_cases hks : i + 1 = s.length
      · have hb : bR (s ++ List.replicate z 48) i = .int .u8 ((s.getD i 0).toNat : Int):=by unfold bR;rw [getD_app (by omega)]
        have hne : (((s.getD i 0).toNat : Int) == 48) = false:=u8_ne48 (hla i hks)
        have hR:=slices_Reverse s (List.replicate z 48) j j (by rw [List.length_replicate];exact hjl) (by omega)
        have ei' : ((s.length : Int) - 1).toNat = i:=by omega
        have hbs : bstr [(2, .row false j false 1 j (bR (s.reverse ++ List.replicate z 48)))] (.sl 2 j 0 s.length) = some (.str s.reverse):=
          bstr_of rfl (by simp) fun i hi => by unfold bR;rw [getD_app (by rw [List.length_reverse];exact hi)]
        rw [hks]
        simp (disch:=first|exact dd|fail) only [go_sem,seval,ei',hb,hne]
        refine callG [2] hR rfl (by simp (disch:=first|exact dd|fail) only [go_sem,seval]) ?_ ?_ ?_
        · simp (disch:=first|exact dd|fail) only [go_sem,seval]
          try exact LesV.refl _
        · simp (disch:=first|exact dd|fail) only [go_sem,seval]
        simp (disch:=first|exact dd|fail) only [go_sem,seval,hbs]
        try exact LeV.refl _
      · have hb : bR (s ++ List.replicate z 48) i = .int .u8 48:=by
          unfold bR
          rw [List.getD_eq_getElem?_getD,List.getElem?_append_right (by omega),List.getElem?_replicate,if_pos (by omega)]
          rfl
        simp (disch:=first|exact dd|fail) only [go_sem,seval,ei,hb]
        refine ⟨i,⟨by omega,by omega⟩,Nat.lt_succ_self i, ?_, ?_⟩
        · simp (disch:=first|exact dd|fail) only [go_sem,seval]
          try exact LeV.refl _
        · simp (disch:=first|exact dd|fail) only [go_sem,seval]
          try exact fun _ _ => trivial
    · have hmp : 0 < (limbs m).length:=limbs_ne hm
      have hmn : nb m + t.length = nb n:=hP.1
      obtain ⟨hnx,x1,x2,x3,x4,x5,x6⟩:=hP.next hm
      have hdig:=fun i hi => hP.dig (i:=i) hi
      have hlm : (limbs m).length = nb m:=rfl
      have hS:=nat_shortN (l:=limbs m) (t:=t) (N:=nb n) (by omega) (limbs_low m) (by omega) (q:=1000000000) (by omega) (by omega) 1
      rw [hlm,x1] at hS
      clear hP
      simp (disch:=first|exact dd|fail) only [go_sem,seval]
      refine callG [1] hS rfl (by simp (disch:=first|exact dd|fail) only [go_sem,seval]) ?_ ?_ ?_
      · simp (disch:=first|exact dd|fail) only [go_sem,seval]
        try exact LesV.refl _
      · simp (disch:=first|exact dd|fail) only [go_sem,seval]
      simp (disch:=first|exact dd|fail) only [go_sem,seval]
      have hjb : j ≤ 32 * nb n + 9:=by have:=hnx.2.2;simp only at this;omega
      refine AL.of (fun i : Nat => i ≤ 9) (fun i => 9 - i) (fun i => [(3, .sl 1 1 0 (nb m)),(4, .sl 2 (j + i) 0 (j + i)),(5, .int .u32 ((m % 1000000000 / 10 ^ i : Nat) : Int)),(14, .int .i64 i)])
        (fun i => [(1, .row false 1 false 1 (nb n) (lR ((sdiv 1000000000 (limbs m)).1 ++ t))),(2, .row false (j + i) false 1 (j + i) (bR (lowd (j + i) n)))]) 0 (Nat.zero_le _) ?_ ?_ ?_ ?_
      · simp (disch:=first|exact dd|fail) only [go_sem,seval]
        try exact LeV_int (by simp)
      · simp (disch:=first|exact dd|fail) only [go_sem,seval]
        try exact ⟨fun _ _ => trivial,fun _ _ => trivial⟩
      · intro x _;simp (disch:=first|exact dd|fail) only [go_sem,seval]
      intro i hi
      by_cases hi9 : i = 9
      · subst hi9
        have hC:=nat_cutN x4 (N:=nb n) (by omega) (by omega) 1 (f:=lR ((sdiv 1000000000 (limbs m)).1 ++ t)) (fun i hi => by
          rw [lR,List.getD_eq_getElem?_getD,List.getElem?_append_left hi,← List.getD_eq_getElem?_getD])
        rw [x3,x6] at hC
        simp (disch:=first|exact dd|fail) only [go_sem,seval]
        refine callG [1] hC rfl (by simp (disch:=first|exact dd|fail) only [go_sem,seval]) ?_ ?_ ?_
        · simp (disch:=first|exact dd|fail) only [go_sem,seval]
          try exact LesV.refl _
        · simp (disch:=first|exact dd|fail) only [go_sem,seval]
        simp (disch:=first|exact dd|fail) only [go_sem,seval]
        refine ⟨_,hnx,x5, ?_, ?_⟩
        · simp (disch:=first|exact dd|fail) only [go_sem,seval]
          try exact LesV.refl _
        · simp (disch:=first|exact dd|fail) only [go_sem,seval,← x2]
          try exact ⟨fun _ _ => trivial,fun _ _ => trivial⟩
      · have hi' : i < 9:=by omega
        have hd:=hdig i hi'
        have hsn:=lowd_snoc (j + i) n
        have hnext : m % 1000000000 / 10 ^ (i + 1) = m % 1000000000 / 10 ^ i / 10:=by rw [Nat.pow_succ,Nat.div_div_eq_div_mul]
        have hlt : m % 1000000000 / 10 ^ i < 1000000000:=Nat.lt_of_le_of_lt (Nat.div_le_self _ _) (Nat.mod_lt _ (by omega))
        rw [← hd] at hsn
        clear hd hdig hS
        generalize hR : m % 1000000000 / 10 ^ i = R at *
        have htm : ((R : Nat) : Int).tmod 10 = ((R % 10 : Nat) : Int):=(Int.ofNat_tmod _ _).symm
        have htd : ((R : Nat) : Int).tdiv 10 = ((R / 10 : Nat) : Int):=(Int.ofNat_tdiv _ _).symm
        have hr10 : R % 10 < 10:=Nat.mod_lt _ (by omega)
        have hdg : 48 + ((R % 10 : Nat) : Int) = ((dg (R % 10)).toNat : Int):=by rw [dg_toNat hr10];omega
        have hdl : (dg (R % 10)).toNat < 256:=(dg (R % 10)).toNat_lt
        simp (disch:=first|exact dd|fail) only [go_sem,seval,htm,htd,hdg,hR]
        refine ⟨.inl trivial, .inr trivial,by omega,by omega, ?_⟩
        have hz:=lowd_len (j + i) n
        refine ⟨i + 1,by show i + 1 ≤ 9;omega,by show 9 - (i + 1) < 9 - i;omega, ?_, ?_⟩
        · show EnvLe _ _ _ [(3, .sl 1 1 0 (nb m)),(4, .sl 2 (j + i + 1) 0 (j + i + 1)),(5, .int .u32 ((m % 1000000000 / 10 ^ (i + 1) : Nat) : Int)),(14, .int .i64 ((i + 1 : Nat) : Int))]
          simp (disch:=first|exact dd|fail) only [go_sem,seval,hnext]
          try exact LeV_int (by omega)
        · show HLe _ _ [(1, .row false 1 false 1 (nb n) (lR ((sdiv 1000000000 (limbs m)).1 ++ t))),(2, .row false (j + i + 1) false 1 (j + i + 1) (bR (lowd (j + i + 1) n)))]
          rw [hsn]
          simp (disch:=first|exact dd|fail) only [go_sem,seval]
          refine ⟨fun _ _ => trivial,fun a ha => Le.of_eq ?_⟩
          have:=bR_app (lowd (j + i) n) [dg (R % 10)] (i:=a) (by rw [List.length_append,hz];exact ha)
          rw [hz] at this
          exact this
theorem dec_len (n : Nat) : (dec n).length ≤ 10 * nb n + 1:=by
  unfold dec
  have:=rdec_nb n
  split
  · simp
  · rw [List.length_reverse];omega
def decZ (z : Int) : List UInt8:=if z < 0 then 45 :: dec z.natAbs else dec z.natAbs
theorem decZ_len (z : Int) : (decZ z).length ≤ 10 * zb z + 2:=by
  have:=dec_len z.natAbs
  unfold decZ zb
  split
  · rw [List.length_cons];omega
  · omega
def decQ (q : Rat) : List UInt8:=if q.den = 1 then decZ q.num else decZ q.num ++ 47 :: dec q.den
theorem whole_Text {z : Int} (hz : zb z < 60000000) : C E 107 [zD z] (.str (decZ z)):=by
  refine CG_intro Tryz.func107 rfl (by kernel_rfl) rfl (by kernel_rfl) (by kernel_rfl) rfl ?_
  have hz' : nb z.natAbs < 60000000:=hz
  have hT:=nat_Text hz'
  have hl:=dec_len z.natAbs
  by_cases h : z < 0
  · have e : decZ z = 45 :: dec z.natAbs:=by unfold decZ;rw [if_pos h]
    have hd : decide (z < 0) = true:=decide_eq_true h
    rw [e]
    simp (disch:=first|exact dd|fail) only [go_sem,seval,hd]
    refine callC hT ?_ rfl ?_
    · simp (disch:=first|exact dd|fail) only [go_sem,seval,natD_u32s]
      try exact LesV.refl _
    simp (disch:=first|exact dd|fail) only [go_sem,seval]
    try exact LeV.refl _
  · have e : decZ z = dec z.natAbs:=by unfold decZ;rw [if_neg h]
    have hd : decide (z < 0) = false:=decide_eq_false h
    rw [e]
    simp (disch:=first|exact dd|fail) only [go_sem,seval,hd]
    refine callC hT ?_ rfl ?_
    · simp (disch:=first|exact dd|fail) only [go_sem,seval,natD_u32s]
      try exact LesV.refl _
    simp (disch:=first|exact dd|fail) only [go_sem,seval]
    try exact LeV.refl _
theorem rat_Text {q : Rat} (hq : qb 40000000 q) : C E 68 [qD q] (.str (decQ q)):=by
  refine CG_intro Tryz.func68 rfl (by kernel_rfl) rfl (by kernel_rfl) (by kernel_rfl) rfl ?_
  have n1:=nb_qden q
  obtain ⟨q1,q2⟩:=hq
  have hZ:=whole_Text (z:=q.num) (by omega)
  have hD:=nat_Text (n:=qden q) (by omega)
  have hB:=nat_Bits (n:=qden q) (by omega)
  have l1:=decZ_len q.num
  have l2:=dec_len q.den
  by_cases h : q.den = 1
  · have e : decQ q = decZ q.num:=by unfold decQ;rw [if_pos h]
    have e0 : qden q = 0:=by unfold qden;rw [if_pos h]
    have eb : ((nbit (qden q) : Nat) : Int) = 0:=by rw [e0];rfl
    rw [e]
    simp (disch:=first|exact dd|fail) only [go_sem,seval]
    refine callC hB ?_ rfl ?_
    · simp (disch:=first|exact dd|fail) only [go_sem,seval,natD_u32s]
      try exact LesV.refl _
    simp (disch:=first|exact dd|fail) only [go_sem,seval,eb]
    refine callC hZ ?_ rfl ?_
    · simp (disch:=first|exact dd|fail) only [go_sem,seval,natD_u32s]
      try exact LesV.refl _
    simp (disch:=first|exact dd|fail) only [go_sem,seval]
    try exact LeV.refl _
  · have e : decQ q = decZ q.num ++ 47 :: dec q.den:=by unfold decQ;rw [if_neg h]
    have e0 : qden q = q.den:=by unfold qden;rw [if_neg h]
    have hp:=nbit_pos (n:=qden q) (by rw [e0];exact q.den_pos)
    have eb : (((nbit (qden q) : Nat) : Int) == 0) = false:=beq_eq_false_iff_ne.2 (by omega)
    rw [e]
    rw [e0] at hD
    simp (disch:=first|exact dd|fail) only [go_sem,seval]
    refine callC hB ?_ rfl ?_
    · simp (disch:=first|exact dd|fail) only [go_sem,seval,natD_u32s]
      try exact LesV.refl _
    simp (disch:=first|exact dd|fail) only [go_sem,seval,eb]
    refine callCl hZ ?_ rfl ?_
    · simp (disch:=first|exact dd|fail) only [go_sem,seval,natD_u32s]
      try exact LesV.refl _
    simp (disch:=first|exact dd|fail) only [go_sem,seval]
    refine callCl hD ?_ rfl ?_
    · simp (disch:=first|exact dd|fail) only [go_sem,seval,natD_u32s,e0]
      try exact LesV.refl _
    simp (disch:=first|exact dd|fail) only [go_sem,seval]
    exact LeV.of_eq (by rw [List.append_assoc];rfl)
theorem ref_IntText {z : Int} (hz : zb z < 60000000) : C E 118 [iD z] (.str (decZ z)):=by
  refine CG_intro Tryz.func118 rfl (by kernel_rfl) rfl (by kernel_rfl) (by kernel_rfl) rfl ?_
  have hz' : nb z.natAbs < 60000000:=hz
  have hT:=ref_NatText hz'
  have hl:=dec_len z.natAbs
  by_cases h : z < 0
  · have e : decZ z = 45 :: dec z.natAbs:=by unfold decZ;rw [if_pos h]
    have hd : decide (z < 0) = true:=decide_eq_true h
    rw [e]
    simp (disch:=first|exact dd|fail) only [go_sem,seval,iD,hd]
    refine cA hT ?_
    simp (disch:=first|exact dd|fail) only [go_sem,seval]
    try exact LeV.refl _
  · have e : decZ z = dec z.natAbs:=by unfold decZ;rw [if_neg h]
    have hd : decide (z < 0) = false:=decide_eq_false h
    rw [e]
    simp (disch:=first|exact dd|fail) only [go_sem,seval,iD,hd]
    refine cA hT ?_
    simp (disch:=first|exact dd|fail) only [go_sem,seval]
    try exact LeV.refl _
theorem ref_RatText {q : Rat} (hq : qb 40000000 q) : C E 77 [rqD q] (.str (decQ q)):=by
  refine CG_intro Tryz.func77 rfl (by kernel_rfl) rfl (by kernel_rfl) (by kernel_rfl) rfl ?_
  have hD0:=ref_Den (hq.qs (by omega))
  obtain ⟨q1,q2⟩:=hq
  have hZ:=ref_IntText (z:=q.num) (by omega)
  have hD:=ref_NatText (n:=q.den) (by omega)
  have h1nb : nb 1 ≤ 1:=nb_lt.2 (by omega)
  have hC:=ref_CmpNat (a:=q.den) (b:=1) (by omega) (by omega)
  have hO:=ref_NatOf (v:=1) (by omega)
  have l1:=decZ_len q.num
  have l2:=dec_len q.den
  by_cases h : q.den = 1
  · have e : decQ q = decZ q.num:=by unfold decQ;rw [if_pos h]
    have es : sgI ((q.den : Nat) : Int) ((1 : Nat) : Int) = 0:=by rw [h];rfl
    rw [e]
    rw [es] at hC
    simp (disch:=first|exact dd|fail) only [go_sem,seval]
    refine cL hD0 ?_
    simp (disch:=first|exact dd|fail) only [go_sem,seval]
    refine cL hO ?_
    simp (disch:=first|exact dd|fail) only [go_sem,seval]
    refine cL hC ?_
    simp (disch:=first|exact dd|fail) only [go_sem,seval]
    refine cA hZ ?_
    simp (disch:=first|exact dd|fail) only [go_sem,seval]
    try exact LeV.refl _
  · have e : decQ q = decZ q.num ++ 47 :: dec q.den:=by unfold decQ;rw [if_neg h]
    have hp:=q.den_pos
    have es : sgI ((q.den : Nat) : Int) ((1 : Nat) : Int) = 1:=sgI_gt (by omega)
    rw [e]
    rw [es] at hC
    simp (disch:=first|exact dd|fail) only [go_sem,seval]
    refine cL hD0 ?_
    simp (disch:=first|exact dd|fail) only [go_sem,seval]
    refine cL hO ?_
    simp (disch:=first|exact dd|fail) only [go_sem,seval]
    refine cL hC ?_
    simp (disch:=first|exact dd|fail) only [go_sem,seval]
    refine cL hZ ?_
    simp (disch:=first|exact dd|fail) only [go_sem,seval]
    refine cL hD ?_
    simp (disch:=first|exact dd|fail) only [go_sem,seval]
    exact LeV.of_eq (by rw [List.append_assoc];rfl)
theorem limb_byteI (n i : Nat) : IntKind.u8.wrap ((((limbs n).getD (i / 4) 0 : Nat) : Int).fdiv ((2 ^ (8 * ((i % 4 : Nat) : Int)).toNat : Nat) : Int)) = ((n / 256 ^ i % 256 : Nat) : Int):=by
  have e : (8 * ((i % 4 : Nat) : Int)).toNat = 8 * (i % 4):=by omega
  rw [e,wrap_u8',Int.fdiv_eq_ediv_of_nonneg _ (Int.natCast_nonneg _),← limb_byte]
  rfl
theorem nby_row {n i j : Nat} (hi : i < nby n) (hj : j < nby n) : (if j = ((nby n : Int) - 1 - (i : Int)).toNat then .int .u8 ((n / 256 ^ i % 256 : Nat) : Int) else nbR n (nby n) i j) = nbR n (nby n) (i + 1) j:=by
  rw [show ((nby n : Int) - 1 - (i : Int)).toNat = nby n - 1 - i by omega]
  exact nbR_set hi hj
theorem nat_Bytes {n : Nat} (hn : nb n < 60000000) : C E 143 [natD n] (.str (natB n)):=by
  refine CG_intro Tryz.func143 rfl (by kernel_rfl) rfl (by kernel_rfl) (by kernel_rfl) rfl ?_
  have hB:=nat_Bits (n:=n) (by omega)
  have hle:=nby_le (n:=n) (Nat.le_refl _)
  have hnb:=(nb_nbit (n:=n) (k:=nb n)).1 (Nat.le_refl _)
  have hk : IntKind.i64.wrap (((nbit n : Int) + 7).tdiv 8) = (nby n : Int):=by
    have : ((nbit n : Int) + 7).tdiv 8 = (nby n : Int):=by rw [Int.tdiv_eq_ediv_of_nonneg (by omega)];unfold nby;omega
    rw [this,wrap_i64 (by omega)]
  simp (disch:=first|exact dd|fail) only [go_sem,seval]
  refine cA hB ?_
  simp (disch:=first|exact dd|fail) only [go_sem,seval,hk]
  refine ⟨by omega,by omega,by omega, ?_⟩
  refine AL.of (fun i : Nat => i ≤ nby n) (fun i => nby n - i) (fun i => [(1, .ad 0 0),(3, .sl 1 0 0 (nby n)),(10, .sl 1 0 0 (nby n)),(11, .int .i64 (nby n)),(12, .int .i64 i)]) (fun i => [(1, .row false 0 false 1 (nby n) (nbR n (nby n) i)),(0, .var true 1 (natD n))]) 0 (Nat.zero_le _) ?_ ?_ ?_ ?_
  · simp (disch:=first|exact dd|fail) only [go_sem,seval]
  · simp (disch:=first|exact dd|fail) only [go_sem,seval]
    exact fun i hi => Le.of_eq (by unfold nbR;rw [if_neg (by omega)];rfl)
  · intro x _;simp (disch:=first|exact dd|fail) only [go_sem,seval]
  intro i hi
  by_cases hil : i = nby n
  · subst hil
    simp (disch:=first|exact dd|fail) only [go_sem,seval]
    rw [bstr_of (l:=natB n) rfl (natB_len n).symm (nbR_fin n)]
    simp (disch:=first|exact dd|fail) only [go_sem,seval]
  · have e4 : IntKind.i64.wrap ((i : Int).tdiv 4) = ((i / 4 : Nat) : Int):=by
      rw [Int.tdiv_eq_ediv_of_nonneg (by omega),wrap_i64 (by omega)];omega
    have e5 : (i : Int).tmod 4 = ((i % 4 : Nat) : Int):=by
      rw [Int.tmod_eq_emod_of_nonneg (by omega)];omega
    have hlim : i / 4 < (limbs n).length:=by
      have : nb n = (limbs n).length:=rfl
      omega
    have e6:=limb_byteI n i
    simp (disch:=first|exact dd|fail) only [go_sem,seval,natD,u32s,e4,e5,e6]
    refine ⟨i + 1,by show i + 1 ≤ nby n;omega,by show nby n - (i + 1) < nby n - i;omega, ?_, ?_⟩
    · simp (disch:=first|exact dd|fail) only [go_sem,seval]
      exact LeV.refl _
    · simp (disch:=first|exact dd|fail) only [go_sem,seval]
      exact fun j hj => Le.of_eq (nby_row (by omega) hj)
theorem ref_NatBytes {n : Nat} (hn : nb n < 60000000) : C E 146 [nD n] (.str (natB n)):=by
  refine CG_intro Tryz.func146 rfl (by kernel_rfl) rfl (by kernel_rfl) (by kernel_rfl) rfl ?_
  have hB:=ref_Bits (n:=n) (by omega)
  have hle:=nby_le (n:=n) (Nat.le_refl _)
  have hnb:=(nb_nbit (n:=n) (k:=nb n)).1 (Nat.le_refl _)
  have hk : IntKind.i64.wrap (((nbit n : Int) + 7).tdiv 8) = (nby n : Int):=by
    have : ((nbit n : Int) + 7).tdiv 8 = (nby n : Int):=by rw [Int.tdiv_eq_ediv_of_nonneg (by omega)];unfold nby;omega
    rw [this,wrap_i64 (by omega)]
  simp (disch:=first|exact dd|fail) only [go_sem,seval]
  refine cA hB ?_
  simp (disch:=first|exact dd|fail) only [go_sem,seval,hk]
  refine ⟨by omega,by omega,by omega, ?_⟩
  refine AL.of (fun i : Nat => i ≤ nby n) (fun i => nby n - i) (fun i => [(0,nD n),(3, .int .i64 (nby n)),(4, .sl 0 0 0 (nby n)),(5, .int .i64 i)]) (fun i => [(0, .row false 0 false 1 (nby n) (nbR n (nby n) i))]) 0 (Nat.zero_le _) ?_ ?_ ?_ ?_
  · simp (disch:=first|exact dd|fail) only [go_sem,seval]
  · simp (disch:=first|exact dd|fail) only [go_sem,seval]
    exact fun i hi => Le.of_eq (by unfold nbR;rw [if_neg (by omega)];rfl)
  · intro x _;simp (disch:=first|exact dd|fail) only [go_sem,seval]
  intro i hi
  by_cases hil : i = nby n
  · subst hil
    simp (disch:=first|exact dd|fail) only [go_sem,seval]
    rw [bstr_of (l:=natB n) rfl (natB_len n).symm (nbR_fin n)]
    simp (disch:=first|exact dd|fail) only [go_sem,seval]
  · have e4 : IntKind.i64.wrap ((i : Int).tdiv 4) = ((i / 4 : Nat) : Int):=by
      rw [Int.tdiv_eq_ediv_of_nonneg (by omega),wrap_i64 (by omega)];omega
    have e5 : (i : Int).tmod 4 = ((i % 4 : Nat) : Int):=by
      rw [Int.tmod_eq_emod_of_nonneg (by omega)];omega
    have hlim : i / 4 < (limbs n).length:=by
      have : nb n = (limbs n).length:=rfl
      omega
    have e6:=limb_byteI n i
    simp (disch:=first|exact dd|fail) only [go_sem,seval,nD,u32s,e4,e5,e6]
    refine ⟨i + 1,by show i + 1 ≤ nby n;omega,by show nby n - (i + 1) < nby n - i;omega, ?_, ?_⟩
    · simp (disch:=first|exact dd|fail) only [go_sem,seval]
      exact LeV.refl _
    · simp (disch:=first|exact dd|fail) only [go_sem,seval]
      exact fun j hj => Le.of_eq (nby_row (by omega) hj)
def zB (z : Int) : List UInt8:=vput (2 * nby z.natAbs + if z < 0 then 1 else 0) ++ natB z.natAbs
theorem zB_neg {z : Int} (h : z < 0) : zB z = vput (2 * nby z.natAbs + 1) ++ natB z.natAbs:=by unfold zB;rw [if_pos h]
theorem zB_pos {z : Int} (h : ¬ z < 0) : zB z = vput (2 * nby z.natAbs) ++ natB z.natAbs:=by unfold zB;rw [if_neg h];rfl
theorem zB_len {z : Int} (hz : zb z < 60000000) : (zB z).length ≤ 10 + 4 * zb z:=by
  have hle:=nby_le (n:=z.natAbs) (Nat.le_refl _)
  unfold zb at *
  by_cases h : z < 0
  · have hv:=vput_len (2 * nby z.natAbs + 1) (by omega)
    rw [zB_neg h,List.length_append,natB_len]
    omega
  · have hv:=vput_len (2 * nby z.natAbs) (by omega)
    rw [zB_pos h,List.length_append,natB_len]
    omega
theorem vint_PutInt {z : Int} (hz : zb z < 60000000) : C E 99 [zD z] (.str (zB z)):=by
  refine CG_intro Tryz.func99 rfl (by kernel_rfl) rfl (by kernel_rfl) (by kernel_rfl) rfl ?_
  have hA:=whole_Abs z
  have hB:=nat_Bytes (n:=z.natAbs) hz
  have hS:=whole_Sign (z:=z) (by unfold zb at hz;omega)
  have hle:=nby_le (n:=z.natAbs) (Nat.le_refl _)
  have hnl:=natB_len z.natAbs
  unfold zb at hz
  simp (disch:=first|exact dd|fail) only [go_sem,seval]
  refine cA hA ?_
  simp (disch:=first|exact dd|fail) only [go_sem,seval]
  refine cA hB ?_
  simp (disch:=first|exact dd|fail) only [go_sem,seval,hnl]
  refine cA hS ?_
  simp (disch:=first|exact dd|fail) only [go_sem,seval]
  by_cases h : z < 0
  · have hp:=vint_Put (2 * nby z.natAbs + 1) (by omega)
    have hv:=vput_len (2 * nby z.natAbs + 1) (by omega)
    have hs : sgI z 0 = -1:=sgI_lt h
    simp (disch:=first|exact dd|fail) only [go_sem,seval,hs]
    refine cA hp ?_
    simp (disch:=first|exact dd|fail) only [go_sem,seval]
    rw [zB_neg h]
    try exact LeV.refl _
  · have hp:=vint_Put (2 * nby z.natAbs) (by omega)
    have hv:=vput_len (2 * nby z.natAbs) (by omega)
    have hs : ¬ sgI z 0 < 0:=by
      have:=sgI_cases z 0
      omega
    simp (disch:=first|exact dd|fail) only [go_sem,seval,hs]
    refine cA hp ?_
    simp (disch:=first|exact dd|fail) only [go_sem,seval]
    rw [zB_pos h]
    try exact LeV.refl _
theorem r2_PutInt {z : Int} (hz : zb z < 60000000) : C E 103 [iD z] (.str (zB z)):=by
  refine CG_intro Tryz.func103 rfl (by kernel_rfl) rfl (by kernel_rfl) (by kernel_rfl) rfl ?_
  have hB:=ref_NatBytes (n:=z.natAbs) hz
  have hS:=ref_Sign (z:=z) (by unfold zb at hz ⊢;omega)
  have hle:=nby_le (n:=z.natAbs) (Nat.le_refl _)
  have hnl:=natB_len z.natAbs
  unfold zb at hz
  simp (disch:=first|exact dd|fail) only [go_sem,seval,iD]
  refine cA hB ?_
  simp (disch:=first|exact dd|fail) only [go_sem,seval,hnl]
  refine cA hS ?_
  simp (disch:=first|exact dd|fail) only [go_sem,seval]
  by_cases h : z < 0
  · have hp:=r2_Put (2 * nby z.natAbs + 1) (by omega)
    have hv:=vput_len (2 * nby z.natAbs + 1) (by omega)
    have hs : sgI z 0 = -1:=sgI_lt h
    simp (disch:=first|exact dd|fail) only [go_sem,seval,hs]
    refine cA hp ?_
    simp (disch:=first|exact dd|fail) only [go_sem,seval]
    rw [zB_neg h]
    try exact LeV.refl _
  · have hp:=r2_Put (2 * nby z.natAbs) (by omega)
    have hv:=vput_len (2 * nby z.natAbs) (by omega)
    have hs : ¬ sgI z 0 < 0:=by
      have:=sgI_cases z 0
      omega
    simp (disch:=first|exact dd|fail) only [go_sem,seval,hs]
    refine cA hp ?_
    simp (disch:=first|exact dd|fail) only [go_sem,seval]
    rw [zB_pos h]
    try exact LeV.refl _
def qB (q : Rat) : List UInt8:=zB q.num ++ zB (q.den : Int)
theorem qB_len {q : Rat} (hq : qb 40000000 q) : (qB q).length ≤ 20 + 4 * (zb q.num + nb q.den):=by
  have h1:=zB_len (z:=q.num) (by have:=hq.1;omega)
  have h2:=zB_len (z:=(q.den : Int)) (by have:=hq.2;unfold zb;rw [Int.natAbs_natCast];omega)
  have e : zb (q.den : Int) = nb q.den:=by unfold zb;rw [Int.natAbs_natCast]
  unfold qB
  rw [List.length_append]
  omega
theorem vint_PutRat {q : Rat} (hq : qb 40000000 q) : C E 55 [qD q] (.str (qB q)):=by
  refine CG_intro Tryz.func55 rfl (by kernel_rfl) rfl (by kernel_rfl) (by kernel_rfl) rfl ?_
  have hN:=rat_Num q
  have hD:=rat_Den (hq.qs (by omega))
  have h1:=vint_PutInt (z:=q.num) (by have:=hq.1;omega)
  have l1:=zB_len (z:=q.num) (by have:=hq.1;omega)
  have l2:=zB_len (z:=(q.den : Int)) (by have:=hq.2;unfold zb;rw [Int.natAbs_natCast];omega)
  have l3 : zb (q.den : Int) = nb q.den:=by unfold zb;rw [Int.natAbs_natCast]
  have l4:=hq.1
  have l5:=hq.2
  have h2:=vint_PutInt (z:=(q.den : Int)) (by have:=hq.2;unfold zb;rw [Int.natAbs_natCast];omega)
  simp (disch:=first|exact dd|fail) only [go_sem,seval]
  refine cL hN ?_
  simp (disch:=first|exact dd|fail) only [go_sem,seval]
  refine cL h1 ?_
  simp (disch:=first|exact dd|fail) only [go_sem,seval]
  refine cL hD ?_
  simp (disch:=first|exact dd|fail) only [go_sem,seval]
  refine cL h2 ?_
  simp (disch:=first|exact dd|fail) only [go_sem,seval]
  exact LeV.refl _
theorem r2_PutRat {q : Rat} (hq : qb 40000000 q) : C E 59 [rqD q] (.str (qB q)):=by
  refine CG_intro Tryz.func59 rfl (by kernel_rfl) rfl (by kernel_rfl) (by kernel_rfl) rfl ?_
  have hD:=ref_Den (hq.qs (by omega))
  have h1:=r2_PutInt (z:=q.num) (by have:=hq.1;omega)
  have l1:=zB_len (z:=q.num) (by have:=hq.1;omega)
  have l2:=zB_len (z:=(q.den : Int)) (by have:=hq.2;unfold zb;rw [Int.natAbs_natCast];omega)
  have l3 : zb (q.den : Int) = nb q.den:=by unfold zb;rw [Int.natAbs_natCast]
  have l4:=hq.1
  have l5:=hq.2
  have h2:=r2_PutInt (z:=(q.den : Int)) (by have:=hq.2;unfold zb;rw [Int.natAbs_natCast];omega)
  simp (disch:=first|exact dd|fail) only [go_sem,seval,rqD]
  refine cL h1 ?_
  simp (disch:=first|exact dd|fail) only [go_sem,seval]
  refine cL hD ?_
  simp (disch:=first|exact dd|fail) only [go_sem,seval]
  refine cL h2 ?_
  simp (disch:=first|exact dd|fail) only [go_sem,seval]
  exact LeV.refl _
theorem isNaN_int (x : Int) : C E 179 [.int .i64 x] (.bool false):=by
  refine CG_intro Tryz.func179 rfl (by kernel_rfl) rfl (by kernel_rfl) (by kernel_rfl) rfl ?_
  have h : (x != x) = false:=by simp
  simp (disch:=first|exact dd|fail) only [go_sem,seval,h]
theorem cmp_int (x y : Int) : C E 153 [.int .i64 x, .int .i64 y] (.int .i64 (if x < y then -1 else if x > y then 1 else 0)):=by
  refine CG_intro Tryz.func153 rfl (by kernel_rfl) rfl (by kernel_rfl) (by kernel_rfl) rfl ?_
  simp (disch:=first|exact dd|fail) only [go_sem,seval]
  refine callC (isNaN_int x) (LesV.refl _) rfl ?_
  simp (disch:=first|exact dd|fail) only [go_sem,seval]
  refine callC (isNaN_int y) (LesV.refl _) rfl ?_
  by_cases h1 : x < y
  · simp (disch:=first|exact dd|fail) only [go_sem,seval,h1]
  · by_cases h2 : x > y
    · simp (disch:=first|exact dd|fail) only [go_sem,seval,h1,h2]
    · simp (disch:=first|exact dd|fail) only [go_sem,seval,h1,h2]
def monoD (a b c : Nat) : D:=.agg [.int .u8 a, .int .u8 b, .int .u8 c]
theorem mono_Degree {a b c : Nat} (ha : a < 256) (hb : b < 256) (hc : c < 256) : C E 154 [monoD a b c] (.int .i64 ((a + b + c : Nat) : Int)):=by
  refine CG_intro Tryz.func154 rfl (by kernel_rfl) rfl (by kernel_rfl) (by kernel_rfl) rfl ?_
  simp (disch:=first|exact dd|fail) only [go_sem,seval,monoD]
  refine AL.step ?_
  simp (disch:=first|exact dd|fail) only [go_sem,seval,monoD]
  refine AL.step ?_
  simp (disch:=first|exact dd|fail) only [go_sem,seval,monoD]
  refine AL.step ?_
  simp (disch:=first|exact dd|fail) only [go_sem,seval,monoD]
  refine AL.step ?_
  simp (disch:=first|exact dd|fail) only [go_sem,seval,monoD]
  refine LeV.of_eq ?_
  congr 1
  omega
theorem isNaN_u8 (x : Int) : C E 196 [.int .u8 x] (.bool false):=by
  refine CG_intro Tryz.func196 rfl (by kernel_rfl) rfl (by kernel_rfl) (by kernel_rfl) rfl ?_
  have h : (x != x) = false:=by simp
  simp (disch:=first|exact dd|fail) only [go_sem,seval,h]
theorem cmp_u8 (x y : Int) : C E 180 [.int .u8 x, .int .u8 y] (.int .i64 (if x < y then -1 else if x > y then 1 else 0)):=by
  refine CG_intro Tryz.func180 rfl (by kernel_rfl) rfl (by kernel_rfl) (by kernel_rfl) rfl ?_
  simp (disch:=first|exact dd|fail) only [go_sem,seval]
  refine callC (isNaN_u8 x) (LesV.refl _) rfl ?_
  simp (disch:=first|exact dd|fail) only [go_sem,seval]
  refine callC (isNaN_u8 y) (LesV.refl _) rfl ?_
  by_cases h1 : x < y
  · simp (disch:=first|exact dd|fail) only [go_sem,seval,h1]
  · by_cases h2 : x > y
    · simp (disch:=first|exact dd|fail) only [go_sem,seval,h1,h2]
    · simp (disch:=first|exact dd|fail) only [go_sem,seval,h1,h2]
def sg (x y : Int) : Int:=if x < y then -1 else if x > y then 1 else 0
def lex : List (Int × Int) → Int
  | [] => 0
  | (x,y) :: r => if sg x y ≠ 0 then sg x y else lex r
theorem slices_Compare (a b c a' b' c' : Nat) : CG E 155 [.vs 0 0 1 3, .vs 1 0 1 3] [(0, .var true 3 (monoD a b c)),(1, .var true 3 (monoD a' b' c'))]
    (.int .i64 (lex [(a,a'),(b,b'),(c,c')])) [(0, .var true 3 (monoD a b c)),(1, .var true 3 (monoD a' b' c'))]:=by
  refine CG_intro Tryz.func155 rfl (by kernel_rfl) rfl (by kernel_rfl) (by kernel_rfl) rfl ?_
  simp (disch:=first|exact dd|fail) only [go_sem,seval,monoD]
  refine AL.step ?_
  simp (disch:=first|exact dd|fail) only [go_sem,seval,monoD]
  refine callC (cmp_u8 _ _) (LesV.refl _) rfl ?_
  rw [show (if ((a : Nat) : Int) < (a' : Nat) then -1 else if ((a : Nat) : Int) > (a' : Nat) then 1 else 0) = sg a a' from rfl]
  by_cases h1 : sg a a' = 0
  case neg =>
    have hb : (sg a a' != 0) = true:=by simpa using h1
    simp (disch:=first|exact dd|fail) only [go_sem,seval,monoD,hb]
    refine LeV.of_eq ?_
    simp [lex,h1]
  have b1 : (sg a a' != 0) = false:=by simpa using h1
  simp (disch:=first|exact dd|fail) only [go_sem,seval,monoD,b1]
  refine AL.step ?_
  simp (disch:=first|exact dd|fail) only [go_sem,seval,monoD]
  refine callC (cmp_u8 _ _) (LesV.refl _) rfl ?_
  rw [show (if ((b : Nat) : Int) < (b' : Nat) then -1 else if ((b : Nat) : Int) > (b' : Nat) then 1 else 0) = sg b b' from rfl]
  by_cases h2 : sg b b' = 0
  case neg =>
    have hb : (sg b b' != 0) = true:=by simpa using h2
    simp (disch:=first|exact dd|fail) only [go_sem,seval,monoD,hb]
    refine LeV.of_eq ?_
    simp [lex,h1,h2]
  have b2 : (sg b b' != 0) = false:=by simpa using h2
  simp (disch:=first|exact dd|fail) only [go_sem,seval,monoD,b2]
  refine AL.step ?_
  simp (disch:=first|exact dd|fail) only [go_sem,seval,monoD]
  refine callC (cmp_u8 _ _) (LesV.refl _) rfl ?_
  rw [show (if ((c : Nat) : Int) < (c' : Nat) then -1 else if ((c : Nat) : Int) > (c' : Nat) then 1 else 0) = sg c c' from rfl]
  by_cases h3 : sg c c' = 0
  case neg =>
    have hb : (sg c c' != 0) = true:=by simpa using h3
    simp (disch:=first|exact dd|fail) only [go_sem,seval,monoD,hb]
    refine LeV.of_eq ?_
    simp [lex,h1,h2,h3]
  have b3 : (sg c c' != 0) = false:=by simpa using h3
  simp (disch:=first|exact dd|fail) only [go_sem,seval,monoD,b3]
  refine AL.step ?_
  simp (disch:=first|exact dd|fail) only [go_sem,seval,monoD]
  refine LeV.of_eq ?_
  simp [lex,h1,h2,h3]
theorem cmp_Or (x y : Int) : C E 152 [.ro false 1 2 fun i => .int .i64 (if i = 0 then x else y)] (.int .i64 (if x ≠ 0 then x else y)):=by
  refine CG_intro Tryz.func152 rfl (by kernel_rfl) rfl (by kernel_rfl) (by kernel_rfl) rfl ?_
  simp (disch:=first|exact dd|fail) only [go_sem,seval]
  refine AL.step ?_
  by_cases h : x = 0
  case neg =>
    have hb : (x != 0) = true:=by simpa using h
    simp (disch:=first|exact dd|fail) only [go_sem,seval,hb]
    exact LeV.of_eq (by simp [h])
  have hb : (x != 0) = false:=by simpa using h
  simp (disch:=first|exact dd|fail) only [go_sem,seval,hb]
  refine AL.step ?_
  by_cases h' : y = 0
  case neg =>
    have hb : (y != 0) = true:=by simpa using h'
    simp (disch:=first|exact dd|fail) only [go_sem,seval,hb]
    exact LeV.of_eq (by simp [h])
  have hb : (y != 0) = false:=by simpa using h'
  simp (disch:=first|exact dd|fail) only [go_sem,seval,hb]
  refine AL.step ?_
  simp (disch:=first|exact dd|fail) only [go_sem,seval]
  exact LeV.of_eq (by simp [h,h'])
def mcmp (a b c a' b' c' : Nat) : Int:=if sg (a + b + c : Nat) (a' + b' + c' : Nat) ≠ 0 then sg (a + b + c : Nat) (a' + b' + c' : Nat) else lex [(a,a'),(b,b'),(c,c')]
theorem mono_Cmp {a b c a' b' c' : Nat} (ha : a < 256) (hb : b < 256) (hc : c < 256) (ha' : a' < 256) (hb' : b' < 256) (hc' : c' < 256) : C E 110 [monoD a b c,monoD a' b' c'] (.int .i64 (mcmp a b c a' b' c')):=by
  refine CG_intro (E:=E.lim fun g => g == 155) Tryz.func110 rfl (by kernel_rfl) rfl (by kernel_rfl) (by kernel_rfl) rfl ?_
  simp (disch:=first|exact dd|fail) only [go_sem,seval,monoD]
  refine callCl (mono_Degree ha hb hc) (LesV.refl _) rfl ?_
  simp (disch:=first|exact dd|fail) only [go_sem,seval,monoD]
  refine callCl (mono_Degree ha' hb' hc') (LesV.refl _) rfl ?_
  simp (disch:=first|exact dd|fail) only [go_sem,seval,monoD]
  refine callCl (cmp_int _ _) (LesV.refl _) rfl ?_
  simp (disch:=first|exact dd|fail) only [go_sem,seval,monoD]
  refine callGl [0,1] (slices_Compare a b c a' b' c') rfl (by simp (disch:=first|exact dd|fail) only [go_sem,seval]) ?_ ?_ ?_
  · simp (disch:=first|exact dd|fail) only [go_sem,seval,monoD]
  · simp (disch:=first|exact dd|fail) only [go_sem,seval,monoD]
  simp (disch:=first|exact dd|fail) only [go_sem,seval,monoD]
  refine callCl (cmp_Or (sg (a + b + c : Nat) (a' + b' + c' : Nat)) (lex [(a,a'),(b,b'),(c,c')])) ?_ rfl ?_
  · simp (disch:=first|exact dd|fail) only [go_sem,seval]
    refine LesV.cons (LeV.ro rfl fun i hi => ?_) LesV.nil
    obtain rfl | rfl : i = 0 ∨ i = 1:=by omega
    · exact Le.of_eq rfl
    · exact Le.of_eq rfl
  simp (disch:=first|exact dd|fail) only [go_sem,seval]
  exact LeV.of_eq rfl
def fit (a b c a' b' c' : Nat) : Bool:=decide (a + a' ≤ 255 ∧ b + b' ≤ 255 ∧ c + c' ≤ 255)
def key (a b c : Nat) : Int:=((a : Int) + b + c) * 16777216 + a * 65536 + b * 256 + c
theorem sg_lt {x y : Int} (h : x < y) : sg x y = -1:=by simp [sg,h]
theorem sg_gt {x y : Int} (h : y < x) : sg x y = 1:=by simp [sg,h,show ¬ x < y by omega]
theorem sg_eq (x : Int) : sg x x = 0:=by simp [sg]
theorem sg_cases (x y : Int) : (x < y ∧ sg x y = -1) ∨ (x = y ∧ sg x y = 0) ∨ (y < x ∧ sg x y = 1):=by
  rcases Int.lt_trichotomy x y with h | h | h
  · exact .inl ⟨h,sg_lt h⟩
  · subst h;exact .inr (.inl ⟨rfl,sg_eq x⟩)
  · exact .inr (.inr ⟨h,sg_gt h⟩)
section
variable {a b c a' b' c' x y z : Nat} (ha : a < 256) (hb : b < 256) (hc : c < 256) (ha' : a' < 256) (hb' : b' < 256) (hc' : c' < 256) (hx : x < 256) (hy : y < 256) (hz : z < 256)
include ha hb hc ha' hb' hc'
end
open Go Go.RowKit Go.Shelf
attribute [local go_sem] Oper.semAt_some
theorem bw_u8 : BWC Tryz.prog 191:=by
  refine ⟨by kernel_rfl,fun l bx N J Jx W hN hc0 hY h0 => ?_⟩
  obtain ⟨a0,cap0,hc0⟩:=hc0
  refine callsIn_of_wp Tryz.func191 rfl trivial ?_ rfl
  simp only [Tryz.ntmps191,List.size_toArray,List.length_cons,List.length_nil,Nat.reduceAdd,Nat.reduceSub,Array.replicate_succ,Array.replicate_zero,List.push_toArray,List.append_toArray,List.nil_append,List.cons_append]
  have hw : IntKind.i64.wrap ((N : Int) - 1) = (N : Int) - 1:=wrap_i64 (by omega)
  have hro : (WF none).round = none:=rfl
  have HY:=Lib.hid hY
  clear hY
  gi_wp2
  gi_loopw [3] (fun i wr => ∃ k : Nat,k ≤ N ∧ i = .int .i64 ((k : Int) - 1) ∧ J k wr) (fun i _ => (intOf i + 1).toNat)
  case atStart => exact ⟨N,Nat.le_refl _,rfl,h0⟩
  case round =>
    obtain ⟨k,hk,rfl,hJ⟩:=hrel
    clear hw
    cases k with
    | zero =>
      gi_wp2
      go_end0
      exact ⟨⟨_,rfl⟩, .inl hJ⟩
    | succ k =>
      obtain ⟨b,o,n,cap,x,hcx,hkn,hx,h1,fn,tmps,assign,body,hy,hR⟩:=HY.out k wr (by omega) hJ
      have e1 : ((k + 1 : Nat) : Int) - 1 = (k : Int):=by omega
      rw [e1]
      gi_wp2
      refine ⟨rfl,hR.mono ?_⟩
      rintro e W3 (⟨rfl,hJ3⟩ | ⟨rfl,hJx3⟩)
      · gi_wp2
        go_roundw
        case rel => exact ⟨k,by omega,rfl,hJ3⟩
        case measure => simp [intOf]
      · gi_wp2
        refine bodyPost_ret (results_none rfl _ _ _) rfl ?_
        exact ⟨⟨_,rfl⟩, .inr hJx3⟩
theorem backward_u8 (d : D) (hd : cl d = true) : CG E 169 [.vs 0 0 1 3] [(0, .var true 3 d)] (.fn 191 [.ad 1 0]) [(0, .var true 3 d),(1, .var false 1 (.vs 0 0 1 3))]:=by
  refine CG_intro Tryz.func169 rfl (by kernel_rfl) rfl (by kernel_rfl) (by kernel_rfl) rfl ?_
  simp (disch:=first|exact dd|fail) only [go_sem,seval,cl_imp _ _ d hd]
def vars (a b c : Nat) : Nat:=if c > 0 then 3 else if b > 0 then 2 else if a > 0 then 1 else 0
theorem mono_Vars {a b c : Nat} : C E 131 [monoD a b c] (.int .i64 (vars a b c)):=by
  refine CG_intro Tryz.func131 rfl (by kernel_rfl) rfl (by kernel_rfl) (by kernel_rfl) rfl ?_
  simp (disch:=first|exact dd|fail) only [go_sem,seval,monoD]
  refine callG [0] (backward_u8 (monoD a b c) rfl) rfl (by simp (disch:=first|exact dd|fail) only [go_sem,seval]) ?_ ?_ ?_
  · simp (disch:=first|exact dd|fail) only [go_sem,seval]
  · simp (disch:=first|exact dd|fail) only [go_sem,seval,monoD]
  simp (disch:=first|exact dd|fail) only [go_sem,seval,monoD]
  refine AB.of 191 3 (fun k : Nat => k ≤ 3 ∧ (k ≤ 2 → c = 0) ∧ (k ≤ 1 → b = 0) ∧ (k ≤ 0 → a = 0)) (fun k => k) (fun _ => [(1, .ad 0 0),(2, .ad 1 0),(6, .fn 191 [.ad 3 0])])
    (fun _ => [(3, .var false 1 (.vs 0 0 1 3)),(1, .var false 1 (.int .i64 0)),(0, .var true 3 (.agg [.int .u8 a, .int .u8 b, .int .u8 c]))]) 3 bw_u8 ⟨by omega,by omega,by omega,by omega⟩ ?_ ?_ ?_ (y:=.vs 0 0 1 3) ?_ ?_ (by omega) ?_ ?_ ?_
  · simp (disch:=first|exact dd|fail) only [go_sem,seval,monoD]
  · simp (disch:=first|exact dd|fail) only [go_sem,seval,monoD]
  · simp (disch:=first|exact dd|fail) only [go_sem,seval,monoD]
  · simp (disch:=first|exact dd|fail) only [go_sem,seval,monoD]
  · simp (disch:=first|exact dd|fail) only [go_sem,seval,monoD]
  · intro x' _;simp (disch:=first|exact dd|fail) only [go_sem,seval,monoD]
  · rintro x' ⟨_,h2,h3,h4⟩ rfl
    simp (disch:=first|exact dd|fail) only [go_sem,seval,monoD]
    refine LeV.of_eq ?_
    simp [vars,h2,h3,h4]
  · rintro x' k ⟨h1,h2,h3,h4⟩ hk rfl
    have hk3 : k = 0 ∨ k = 1 ∨ k = 2:=by omega
    rcases hk3 with rfl | rfl | rfl
    · by_cases h : (a : Int) > 0
      · refine ⟨.vs 0 0 1 3, .int .u8 a,rfl,rfl, ?_⟩
        simp (disch:=first|exact dd|fail) only [go_sem,seval,monoD,h]
        refine LeV.of_eq ?_
        have e1:=h2 (by omega);have e2:=h3 (by omega)
        have : 0 < a:=by omega
        simp [vars,e1,e2,this]
      · refine ⟨.vs 0 0 1 3, .int .u8 a,rfl,rfl, ?_⟩
        simp (disch:=first|exact dd|fail) only [go_sem,seval,monoD,h]
        refine BGo.of 0 (by simp (disch:=first|exact dd|fail) only [go_sem,seval]) ⟨by omega,fun _ => h2 (by omega),fun _ => h3 (by omega),by omega⟩ rfl (by simp [mx]) ?_ ?_
        · simp (disch:=first|exact dd|fail) only [go_sem,seval,monoD]
        · simp (disch:=first|exact dd|fail) only [go_sem,seval,monoD]
    · by_cases h : (b : Int) > 0
      · refine ⟨.vs 0 0 1 3, .int .u8 b,rfl,rfl, ?_⟩
        simp (disch:=first|exact dd|fail) only [go_sem,seval,monoD,h]
        refine LeV.of_eq ?_
        have e1:=h2 (by omega)
        have : 0 < b:=by omega
        simp [vars,e1,this]
      · refine ⟨.vs 0 0 1 3, .int .u8 b,rfl,rfl, ?_⟩
        simp (disch:=first|exact dd|fail) only [go_sem,seval,monoD,h]
        refine BGo.of 1 (by simp (disch:=first|exact dd|fail) only [go_sem,seval]) ⟨by omega,fun _ => h2 (by omega),by omega,by omega⟩ rfl (by simp [mx]) ?_ ?_
        · simp (disch:=first|exact dd|fail) only [go_sem,seval,monoD]
        · simp (disch:=first|exact dd|fail) only [go_sem,seval,monoD]
    · by_cases h : (c : Int) > 0
      · refine ⟨.vs 0 0 1 3, .int .u8 c,rfl,rfl, ?_⟩
        simp (disch:=first|exact dd|fail) only [go_sem,seval,monoD,h]
        refine LeV.of_eq ?_
        have : 0 < c:=by omega
        simp [vars,this]
      · refine ⟨.vs 0 0 1 3, .int .u8 c,rfl,rfl, ?_⟩
        simp (disch:=first|exact dd|fail) only [go_sem,seval,monoD,h]
        refine BGo.of 2 (by simp (disch:=first|exact dd|fail) only [go_sem,seval]) ⟨by omega,by omega,by omega,by omega⟩ rfl (by simp [mx]) ?_ ?_
        · simp (disch:=first|exact dd|fail) only [go_sem,seval,monoD]
        · simp (disch:=first|exact dd|fail) only [go_sem,seval,monoD]
end Go.Proofs.YtakaojkfipnfcaaGreatDoor.Lv
