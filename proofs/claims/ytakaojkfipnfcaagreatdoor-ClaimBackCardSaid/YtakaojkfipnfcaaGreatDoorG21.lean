/- strings.Builder. What is read as a number is its text; are both the same? A first box. The program's Neg, Sub, Width, Widest; the first call of law 6. The first call of law 6; the law of the widest side. The law of a box' texts. Boxes as bytes. Polynomials as bytes. Numbers out of bytes: the plain law. -/
import Derived.Test.YtakaojkfipnfcaaGreatDoorG14
import Derived.Test.YtakaojkfipnfcaaGreatDoorG19
import Derived.Test.YtakaojkfipnfcaaGreatDoorG18
import Derived.Test.YtakaojkfipnfcaaGreatDoorG20
set_option linter.unusedVariables false
set_option linter.unusedSimpArgs false
set_option maxRecDepth 100000
set_option maxHeartbeats 4000000
namespace Go.Proofs.YtakaojkfipnfcaaGreatDoor.Lv
open Go Go.RowKit
theorem sb_lies : liesAt E.P E.P.depth 116 (2 / E.P.cellsOf 116) 0 116 1 = true:=by kernel_rfl
theorem byte_cells : E.P.cellsOf 5 = 1:=by kernel_rfl
def sbZ : Hp:=[(0, .var true 2 (.agg [.nilp, .nils]) 116)]
def sbR (k v n : Nat) (f : Nat → D) : Hp:=[(k, .row false v false 1 n f 5),(0, .var true 2 (.agg [.ad 0 0, .sl k v 0 n]) 116)]
def sbU (v n : Nat) (f : Nat → D) : Hp:=[(0, .var true 2 (.agg [.ad 0 0, .sl 1 v 0 n]) 116),(1, .row false v false 1 n f 5)]
theorem copy0 : CG E 96 [.ad 0 0] sbZ (.tup []) [(0, .var true 2 (.agg [.ad 0 0, .nils]) 116)]:=by
  refine CG_intro Tryz.func96 rfl (by kernel_rfl) rfl (by kernel_rfl) (by kernel_rfl) rfl ?_
  simp (disch:=first|exact dd|fail) only [go_sem,seval,sbZ]
  refine callI ⟨_,rfl,by kernel_rfl,by kernel_rfl,by kernel_rfl,by kernel_rfl⟩ ?_
  simp (disch:=first|exact dd|fail) only [go_sem,seval,sb_lies]
theorem copy1 (v n : Nat) (f : Nat → D) : CG E 96 [.ad 0 0] (sbU v n f) (.tup []) (sbU v n f):=by
  refine CG_intro Tryz.func96 rfl (by kernel_rfl) rfl (by kernel_rfl) (by kernel_rfl) rfl ?_
  simp (disch:=first|exact dd|fail) only [go_sem,seval,sbU]
  exact fun _ _ => trivial
theorem sbWrite0 (l : List UInt8) (hl : l.length < 1099511627776) : CG E 50 [.ad 0 0, .str l] sbZ (.tup [.int .i64 l.length, .unk]) (sbR 2 0 l.length (bR l)):=by
  refine CG_intro Tryz.func50 rfl (by kernel_rfl) rfl (by kernel_rfl) (by kernel_rfl) rfl ?_
  simp (disch:=first|exact dd|fail) only [go_sem,seval,sbZ]
  refine callG [0] copy0 rfl rfl (LesV.refl _) rfl ?_
  simp (disch:=first|exact dd|fail) only [go_sem,seval,sbR]
  refine ⟨.inr trivial, .inr trivial,by omega,by omega, ?_⟩
  exact fun _ _ => Le.refl _
theorem bR_cat (l m : List UInt8) (j : Nat) : (if j < l.length then bR l j else bR m (j - l.length)) = bR (l ++ m) j:=by
  unfold bR
  by_cases h : j < l.length
  · rw [if_pos h,List.getD_eq_getElem?_getD,List.getD_eq_getElem?_getD,List.getElem?_append_left h]
  · rw [if_neg h,List.getD_eq_getElem?_getD,List.getD_eq_getElem?_getD,List.getElem?_append_right (by omega)]
theorem sbWrite1 (v : Nat) (m l : List UInt8) (hl : m.length + l.length < 1099511627776) : CG E 50 [.ad 0 0, .str l] (sbU v m.length (bR m)) (.tup [.int .i64 l.length, .unk]) (sbU (v + 1) (m.length + l.length) (bR (m ++ l))):=by
  refine CG_intro Tryz.func50 rfl (by kernel_rfl) rfl (by kernel_rfl) (by kernel_rfl) rfl ?_
  simp (disch:=first|exact dd|fail) only [go_sem,seval,sbU]
  refine callG [0,1] (copy1 v m.length (bR m)) rfl rfl (LesV.refl _) rfl ?_
  simp (disch:=first|exact dd|fail) only [go_sem,seval,sbU]
  refine ⟨.inr trivial, .inr trivial,by omega,by omega, ?_⟩
  intro i hi
  rw [← bR_cat]
  exact Le.refl _
theorem sbByte1 (v : Nat) (m : List UInt8) (x : UInt8) (hl : m.length + 1 < 1099511627776) : CG E 52 [.ad 0 0, .int .u8 x.toNat] (sbU v m.length (bR m)) .unk (sbU (v + 1) (m.length + 1) (bR (m ++ [x]))):=by
  refine CG_intro Tryz.func52 rfl (by kernel_rfl) rfl (by kernel_rfl) (by kernel_rfl) rfl ?_
  simp (disch:=first|exact dd|fail) only [go_sem,seval,sbU]
  refine callG [0,1] (copy1 v m.length (bR m)) rfl rfl (LesV.refl _) rfl ?_
  simp (disch:=first|exact dd|fail) only [go_sem,seval,sbU]
  refine ⟨.inl trivial, .inr trivial,by omega,by omega, ?_⟩
  intro i hi
  rw [← bR_cat]
  by_cases h : i < m.length
  · rw [if_pos h,if_pos h]
    exact Le.refl _
  · rw [if_neg h,if_neg h,show i - m.length = 0 by omega]
    exact Le.refl _
theorem sbString (v : Nat) (l : List UInt8) (hl : 0 < l.length ∧ l.length < 1099511627776) : CG E 56 [.ad 0 0] (sbU v l.length (bR l)) (.str l) [(0, .var true 2 (.agg [.ad 0 0, .sl 1 v 0 l.length]) 116),(1, .row false (v + 1) false 1 0 (bR l) 5)]:=by
  refine CG_intro Tryz.func56 rfl (by kernel_rfl) rfl (by kernel_rfl) (by kernel_rfl) rfl ?_
  simp (disch:=first|exact dd|fail) only [go_sem,seval,sbU,sdD,hl.1,true_and,and_true]
  refine ⟨rfl,rfl,by decide,byte_cells,by omega,Int.le_refl _,by omega,l,rfl,fun i hi => rfl, ?_⟩
  simp (disch:=first|exact dd|fail) only [go_sem,seval]
  exact fun _ _ => trivial
theorem okNat_txt {s : List UInt8} (h : okNat s = true) : NatTxt s:=by
  obtain ⟨h3,h4⟩:=okNat_len h
  simp only [okNat,Bool.and_eq_true,Bool.not_eq_true',decide_eq_true_eq,Bool.and_eq_false_iff,decide_eq_false_iff_not] at h
  obtain ⟨⟨⟨h1,h2⟩,h5⟩,_⟩:=h
  refine ⟨fun e => (by rw [e] at h1;cases h1),h3,fun e => ?_,h4⟩
  have hl : s.length ≠ 0:=fun e => by rw [List.length_eq_zero_iff] at e;rw [e] at h1;cases h1
  rcases h5 with h5 | h5
  · rw [e] at h5;cases h5
  · omega
theorem zpO_text {s : List UInt8} {z : Int} (h : zpO s = some z) : decZ z = s:=by
  unfold zpO at h
  split at h
  · rename_i hm
    split at h
    · rename_i hc
      cases h
      have e : s = 45 :: s.drop 1:=by
        cases s with
        | nil => exact absurd rfl hm.1
        | cons c r =>
          have hc:=hm.2
          rw [List.getD_cons_zero] at hc
          have : c = 45:=UInt8.toNat_inj.1 (by rw [hc];rfl)
          rw [this];rfl
      unfold decZ
      rw [if_pos (by have:=hc.2;omega),Int.natAbs_neg,Int.natAbs_natCast,dec_dval (okNat_txt hc.1),← e]
    · cases h
  · split at h
    · rename_i hc
      cases h
      unfold decZ
      rw [if_neg (by omega),Int.natAbs_natCast,dec_dval (okNat_txt hc)]
    · cases h
theorem ib_get : ∀ (s : List UInt8) (c : UInt8),0 ≤ Lib.indexByte s c → (Lib.indexByte s c).toNat < s.length ∧ s.getD (Lib.indexByte s c).toNat 0 = c
  | [],c,h => by simp [Lib.indexByte] at h
  | b :: l,c,h => by
    have ih:=ib_get l c
    by_cases e : (b == c) = true
    · have : Lib.indexByte (b :: l) c = 0:=by simp [Lib.indexByte,e]
      rw [this]
      exact ⟨by simp,by simpa using e⟩
    · have e' : (b == c) = false:=by simpa using e
      by_cases h0 : Lib.indexByte l c = -1
      · have : Lib.indexByte (b :: l) c = -1:=by simp [Lib.indexByte,e',h0]
        rw [this] at h;omega
      · have h1 : Lib.indexByte (b :: l) c = Lib.indexByte l c + 1:=by simp [Lib.indexByte,e',h0]
        rw [h1] at h ⊢
        obtain ⟨g1,g2⟩:=ih (by omega)
        have e2 : (Lib.indexByte l c + 1).toNat = (Lib.indexByte l c).toNat + 1:=by omega
        rw [e2]
        exact ⟨by simp;omega,by rw [List.getD_cons_succ];exact g2⟩
theorem rpO_text {s : List UInt8} {q : Rat} (h : rpO s = some q) : decQ q = s:=by
  unfold rpO at h
  split at h
  · rename_i h0
    obtain ⟨g1,g2⟩:=ib_get s 47 h0
    generalize (Lib.indexByte s 47).toNat = k at *
    cases hz : zpO (s.take k) with
    | none => rw [hz] at h;cases h
    | some n =>
      rw [hz] at h
      simp only at h
      split at h
      · rename_i hc
        obtain ⟨hc1,hc2,hc3⟩:=hc
        cases h
        have t1:=zpO_text hz
        have t2:=dec_dval (okNat_txt hc1)
        generalize dval (s.drop (k + 1)) = d at *
        obtain ⟨m0,m1,m2⟩:=mk_parts n d (by omega)
        have mk2:=mk_num (n:=n) (d:=d) (by omega)
        rw [hc3,Nat.div_one] at mk2 m2
        rw [mkZ_self] at mk2
        unfold decQ
        rw [m2,← mk2,if_neg (by omega),t1,t2]
        conv => rhs;rw [← List.take_append_drop k s,List.drop_eq_getElem_cons g1]
        rw [List.getD_eq_getElem?_getD,List.getElem?_eq_getElem g1] at g2
        simp only [Option.getD_some] at g2
        rw [g2]
      · cases h
  · rw [Option.map_eq_some_iff] at h
    obtain ⟨n,hz,rfl⟩:=h
    unfold decQ
    rw [Rat.den_intCast,if_pos rfl,Rat.num_intCast,zpO_text hz]
theorem isOk_one : okNat [49] = true:=by decide
theorem rp_one : rpO [49] = some ((1 : Int) : Rat):=by
  unfold rpO
  have e : ¬ 0 ≤ Lib.indexByte [49] 47:=by decide
  rw [if_neg e]
  have : zpO [49] = some 1:=by
    unfold zpO
    rw [if_neg (by decide),if_pos isOk_one]
    rfl
  rw [this];rfl
theorem dyq_int (v : Int) : dyq (v : Rat):=by
  unfold dyq
  rw [Rat.den_intCast,tz_odd rfl]
  rfl
theorem whole_Neg {z : Int} (hz : zb z < 1000000000) : C E 175 [zD z] (zD (-z)):=by
  refine CG_intro Tryz.func175 rfl (by kernel_rfl) rfl (by kernel_rfl) (by kernel_rfl) rfl ?_
  have e : mkZ (!decide (z < 0)) z.natAbs = -z:=by
    unfold mkZ
    by_cases h : z < 0
    · rw [decide_eq_true h,if_neg (by decide)];omega
    · rw [decide_eq_false h,if_pos (by decide)];omega
  have hz' : nb z.natAbs < 1000000000:=hz
  have hF:=whole_From (!decide (z < 0)) (n:=z.natAbs) (by omega)
  rw [e] at hF
  simp (disch:=first|exact dd|fail) only [go_sem,seval]
  refine callC hF ?_ rfl ?_
  · simp (disch:=first|exact dd|fail) only [go_sem,seval,natD_u32s]
    try exact LesV.refl _
  simp (disch:=first|exact dd|fail) only [go_sem,seval]
  try exact LeV.refl _
theorem rp_two : rpO [50] = some ((2 : Int) : Rat):=by
  unfold rpO
  rw [if_neg (by decide)]
  have : zpO [50] = some 2:=by
    unfold zpO
    rw [if_neg (by decide),if_pos (by decide)]
    rfl
  rw [this];rfl
theorem side_int {a b : List UInt8} {x y : Int} (ha : rpO a = some (x : Rat)) (hb : rpO b = some (y : Rat)) (h : x < y) : sideR a b = (((x : Rat),(y : Rat)),0):=by
  have h1 : ¬ (y : Rat) < (x : Rat):=by rw [Rat.intCast_lt_intCast];omega
  have h2 : ¬ (y : Rat) ≤ (x : Rat):=by rw [Rat.intCast_le_intCast];omega
  have e1 : spR a b = (((x : Rat),(y : Rat)),0):=by
    unfold spR
    rw [ha,hb]
    simp only [h1,if_false]
  unfold sideR
  rw [e1]
  simp only [ne_eq,not_true_eq_false,if_false,h2,dyq_int,and_self,if_true]
theorem qb_small (k : Int) (h : k.natAbs ≤ 2) : qb 40000000 (k : Rat):=by
  have h1 : nb k.natAbs ≤ 1:=nb_lt.2 (by omega)
  have h2 : nb 1 ≤ 1:=nb_lt.2 (by omega)
  exact ⟨by show nb _ ≤ _;rw [Rat.num_intCast];omega,by rw [Rat.den_intCast];omega⟩
theorem book_SamePairs (l : List (Txt × Txt)) (hl : l.length < 1073741824) : C E 29 [txD l,txD l] (.bool true):=by
  refine CG_intro Tryz.func29 rfl (by kernel_rfl) rfl (by kernel_rfl) (by kernel_rfl) rfl ?_
  simp (disch:=first|exact dd|fail) only [go_sem,seval,txD]
  refine AL.of (fun i : Nat => i ≤ l.length) (fun i => l.length - i) (fun i => [(0,txD l),(1,txD l),(5, .int .i64 i)]) (fun _ => []) 0 (Nat.zero_le _) ?_ ?_ ?_ ?_
  · simp (disch:=first|exact dd|fail) only [go_sem,seval,txD]
    try exact LeV.refl _
  · simp (disch:=first|exact dd|fail) only [go_sem,seval]
  · intro x _;simp (disch:=first|exact dd|fail) only [go_sem,seval]
  intro i hi
  by_cases hil : i = l.length
  · subst hil
    simp (disch:=first|exact dd|fail) only [go_sem,seval,txD]
  · have hil' : i < l.length:=by omega
    have hp : txR l i = .agg [.str (l.getD i ([],[])).1, .str (l.getD i ([],[])).2]:=rfl
    generalize l.getD i ([],[]) = p at *
    simp (disch:=first|exact dd|fail) only [go_sem,seval,txD,hp]
    refine ⟨i + 1,hil',by show l.length - (i + 1) < l.length - i;omega, ?_, ?_⟩
    · simp (disch:=first|exact dd|fail) only [go_sem,seval,txD]
      try exact LeV_int (by omega)
    · simp (disch:=first|exact dd|fail) only [go_sem,seval]
def plQ (p : Rat × Rat) : Txt × Txt:=(decQ p.1,decQ p.2)
def sB (p : Rat × Rat) : List UInt8:=qB p.1 ++ qB p.2
def bxBy (l : List (Rat × Rat)) : List UInt8:=l.flatMap sB
theorem vput_pos (v : Nat) : 1 ≤ (vput v).length:=by
  by_cases h : v < 128
  · rw [vput_lt h];simp
  · rw [vput_ge h];simp
theorem zB_pos_len (z : Int) : 1 ≤ (zB z).length:=by
  unfold zB
  rw [List.length_append]
  have:=vput_pos (2 * nby z.natAbs + if z < 0 then 1 else 0)
  omega
theorem qB_pos (q : Rat) : 1 ≤ (qB q).length:=by
  unfold qB
  rw [List.length_append]
  have:=zB_pos_len q.num
  omega
theorem qB_max {q : Rat} {k : Nat} (hk : k ≤ 40000000) (hq : qb k q) : (qB q).length ≤ 20 + 8 * k:=by
  have:=qB_len (q:=q) ⟨by have:=hq.1;omega,by have:=hq.2;omega⟩
  have h1:=hq.1
  have h2:=hq.2
  omega
theorem putSpan {p : Rat × Rat} (h1 : qb 40000000 p.1) (h2 : qb 40000000 p.2) : C E 54 [sD p] (.str (sB p)):=by
  refine CG_intro Tryz.func54 rfl (by kernel_rfl) rfl (by kernel_rfl) (by kernel_rfl) rfl ?_
  have g1:=vint_PutRat h1
  have g2:=vint_PutRat h2
  have l1:=qB_max (by omega) h1
  have l2:=qB_max (by omega) h2
  simp (disch:=first|exact dd|fail) only [go_sem,seval,sD]
  refine cL g1 ?_
  simp (disch:=first|exact dd|fail) only [go_sem,seval]
  refine cL g2 ?_
  simp (disch:=first|exact dd|fail) only [go_sem,seval]
  exact LeV.refl _
def sbV (k v : Nat) (m : List UInt8) : Blk:=.var true 2 (.agg [.ad 0 0, .sl k v 0 m.length]) 116
def sbW (v : Nat) (m : List UInt8) : Blk:=.row false v false 1 m.length (bR m) 5
theorem bxBy_take {l : List (Rat × Rat)} {i : Nat} (hi : i < l.length) : bxBy (l.take i) ++ sB (l.getD i (0,0)) = bxBy (l.take (i + 1)):=by
  unfold bxBy
  rw [List.take_succ_eq_append_getElem hi,List.flatMap_append,List.getD_eq_getElem?_getD,List.getElem?_eq_getElem hi]
  simp
theorem sB_max {p : Rat × Rat} (h1 : qb 40000000 p.1) (h2 : qb 40000000 p.2) : (sB p).length ≤ 640000040 ∧ 1 ≤ (sB p).length:=by
  have l1:=qB_max (by omega) h1
  have l2:=qB_max (by omega) h2
  have l3:=qB_pos p.1
  unfold sB
  rw [List.length_append]
  omega
theorem bxBy_len {l : List (Rat × Rat)} (hq : ∀ p ∈ l,qb 40000000 p.1 ∧ qb 40000000 p.2) : (bxBy l).length ≤ 640000040 * l.length ∧ l.length ≤ (bxBy l).length:=by
  induction l with
  | nil => simp [bxBy]
  | cons p l ih =>
    have h1:=ih fun q hq' => hq q (List.mem_cons_of_mem _ hq')
    obtain ⟨h2,h3⟩:=hq p (List.mem_cons_self ..)
    have h4:=sB_max h2 h3
    unfold bxBy at *
    rw [List.flatMap_cons,List.length_append,List.length_cons]
    omega
theorem putBox {l : List (Rat × Rat)} (hq : ∀ p ∈ l,qb 40000000 p.1 ∧ qb 40000000 p.2) (h0 : 0 < l.length) (hl : l.length ≤ 1000) : C E 51 [bxD l] (.str (bxBy l)):=by
  refine CG_intro Tryz.func51 rfl (by kernel_rfl) rfl (by kernel_rfl) (by kernel_rfl) rfl ?_
  simp (disch:=first|exact dd|fail) only [go_sem,seval,bxD]
  refine AL.step ?_
  obtain ⟨a1,a2⟩:=hq (l.getD 0 (0,0)) (getD_mem' l 0 _ h0)
  have hs0:=putSpan a1 a2
  have hs1:=sB_max a1 a2
  simp (disch:=first|exact dd|fail) only [go_sem,seval,pR,sD]
  refine cA hs0 ?_
  simp (disch:=first|exact dd|fail) only [go_sem,seval]
  refine callG [0] (sbWrite0 (sB (l.getD 0 (0,0))) (by omega)) rfl rfl (LesV.refl _) rfl ?_
  simp (disch:=first|exact dd|fail) only [go_sem,seval,sbR]
  have hB:=bxBy_len hq
  have hBt : ∀ i,i ≤ l.length → (bxBy (l.take i)).length ≤ 640000040 * 1000:=fun i hi => by
    have:=(bxBy_len (l:=l.take i) fun p hp => hq p (List.mem_of_mem_take hp)).1
    rw [List.length_take,Nat.min_eq_left hi] at this
    omega
  have hf : bxBy (l.take 1) = sB (l.getD 0 (0,0)):=by
    have:=bxBy_take h0
    simpa [bxBy] using this.symm
  refine AL.of (fun i : Nat => i < l.length) (fun i => l.length - i) (fun i => [(3, .ad 0 0),(6,bxD l),(7, .int .i64 l.length),(8, .int .i64 ((i + 1 : Nat) : Int))]) (fun i => [(0,sbV 4 i (bxBy (l.take (i + 1)))),(4,sbW i (bxBy (l.take (i + 1))))]) 0 h0 ?_ ?_ ?_ ?_
  · simp (disch:=first|exact dd|fail) only [go_sem,seval,bxD]
    try exact ⟨LeV.refl _,LeV.refl _⟩
  · simp (disch:=first|exact dd|fail) only [go_sem,seval,sbV,sbW,hf]
    try exact fun _ _ => trivial
  · intro x _;simp (disch:=first|exact dd|fail) only [go_sem,seval,sbV,sbW]
  intro i hi
  by_cases hil : i + 1 = l.length
  · skip
    simp (disch:=first|exact dd|fail) only [go_sem,seval,sbV,sbW,hil,List.take_length]
    refine callG [0,4] (sbString i (bxBy l) (by omega)) rfl rfl (LesV.refl _) rfl ?_
    simp (disch:=first|exact dd|fail) only [go_sem,seval]
  · obtain ⟨a1,a2⟩:=hq (l.getD (i + 1) (0,0)) (getD_mem' l (i + 1) _ (by omega))
    have hs0:=putSpan a1 a2
    have hs1:=sB_max a1 a2
    have hb:=hBt (i + 1) (by omega)
    have hb2:=bxBy_take (l:=l) (i:=i + 1) (by omega)
    simp (disch:=first|exact dd|fail) only [go_sem,seval,sbV,sbW,bxD,pR,sD]
    refine cA hs0 ?_
    simp (disch:=first|exact dd|fail) only [go_sem,seval]
    refine callG [0,4] (sbWrite1 i (bxBy (l.take (i + 1))) (sB (l.getD (i + 1) (0,0))) (by omega)) rfl rfl (LesV.refl _) rfl ?_
    simp (disch:=first|exact dd|fail) only [go_sem,seval,sbU]
    have hlen : (bxBy (l.take (i + 1 + 1))).length = (bxBy (l.take (i + 1))).length + (sB (l.getD (i + 1) (0,0))).length:=by rw [← hb2,List.length_append]
    refine ⟨i + 1,by show i + 1 < l.length;omega,by show l.length - (i + 1) < l.length - i;omega, ?_, ?_⟩
    · simp (disch:=first|exact dd|fail) only [go_sem,seval]
      try exact LeV.refl _
    · simp (disch:=first|exact dd|fail) only [go_sem,seval,hb2,hlen]
      exact fun _ _ => trivial
def plOk (l : List Tm) : Bool:=okPl l && lowB l
theorem mxF_iff {f : Pt → Nat} {l : List Pt} {m : Nat} : mxF f l ≤ m ↔ ∀ t ∈ l,f t ≤ m:=by
  have : ∀ (l : List Pt) (a : Nat),l.foldl (fun n t => max n (f t)) a ≤ m ↔ a ≤ m ∧ ∀ t ∈ l,f t ≤ m:=fun l => by
    induction l with
    | nil => intro a;simp
    | cons t l ih =>
      intro a
      rw [List.foldl_cons,ih,Nat.max_le,List.forall_mem_cons,and_assoc]
  have h:=this l 0
  unfold mxF
  rw [h]
  simp
theorem lowB_iff {l : List Tm} : lowB l = true ↔ topX 0 (pV l) ≤ 8 ∧ topX 1 (pV l) ≤ 8 ∧ topX 2 (pV l) ≤ 8:=by
  unfold topX
  rw [mxF_iff,mxF_iff,mxF_iff]
  unfold lowB pV
  simp only [List.all_eq_true,List.forall_mem_map,lowM,Bool.and_eq_true,decide_eq_true_eq,exM,if_true,if_false,Nat.one_ne_zero,Nat.reduceEqDiff]
  constructor
  · intro h
    exact ⟨fun t ht => (h t ht).1.1,fun t ht => (h t ht).1.2,fun t ht => (h t ht).2⟩
  · rintro ⟨h1,h2,h3⟩ t ht
    exact ⟨⟨h1 t ht,h2 t ht⟩,h3 t ht⟩
def poD (l : List Tm) : D:=.tup [if okPl l = true then rtD (pV l) else .nils, .bool (plOk l)]
theorem r2_polyOk {l : List Tm} (hl : l.length < 1073741824) (ht : ∀ p ∈ l,p.2.length < 9223372036854775808) : C E 42 [tmD l] (poD l):=by
  refine CG_intro Tryz.func42 rfl (by kernel_rfl) rfl (by kernel_rfl) (by kernel_rfl) rfl ?_
  have hP:=ref_PolyParse hl ht
  have hlen:=pV_len l
  have hlow:=lowB_iff (l:=l)
  unfold poD plOk
  by_cases h : okPl l = true
  · simp only [rpp,h,if_true] at hP
    simp (disch:=first|exact dd|fail) only [go_sem,seval]
    refine cA hP ?_
    rw [h]
    simp (disch:=first|exact dd|fail) only [go_sem,seval]
    refine AL.step ?_
    have t0:=ref_Top (l:=pV l) (by omega) (k:=0) (by omega)
    simp (disch:=first|exact dd|fail) only [go_sem,seval]
    refine cA t0 ?_
    by_cases h0 : topX 0 (pV l) ≤ 8
    · simp (disch:=first|exact dd|fail) only [go_sem,seval]
      refine AL.step ?_
      have t1:=ref_Top (l:=pV l) (by omega) (k:=1) (by omega)
      simp (disch:=first|exact dd|fail) only [go_sem,seval]
      refine cA t1 ?_
      by_cases h1 : topX 1 (pV l) ≤ 8
      · simp (disch:=first|exact dd|fail) only [go_sem,seval]
        refine AL.step ?_
        have t2:=ref_Top (l:=pV l) (by omega) (k:=2) (by omega)
        simp (disch:=first|exact dd|fail) only [go_sem,seval]
        refine cA t2 ?_
        by_cases h2 : topX 2 (pV l) ≤ 8
        · have e : lowB l = true:=hlow.2 ⟨h0,h1,h2⟩
          rw [e]
          simp (disch:=first|exact dd|fail) only [go_sem,seval]
          refine AL.step ?_
          simp (disch:=first|exact dd|fail) only [go_sem,seval]
          try exact LeV.refl _
        · have e : lowB l = false:=by
            rw [Bool.eq_false_iff];exact fun hh => h2 (hlow.1 hh).2.2
          rw [e]
          simp (disch:=first|exact dd|fail) only [go_sem,seval]
          refine AL.step ?_
          simp (disch:=first|exact dd|fail) only [go_sem,seval]
          try exact LeV.refl _
      · have e : lowB l = false:=by
          rw [Bool.eq_false_iff];exact fun hh => h1 (hlow.1 hh).2.1
        rw [e]
        simp (disch:=first|exact dd|fail) only [go_sem,seval]
        refine AL.step ?_
        simp (disch:=first|exact dd|fail) only [go_sem,seval]
        try exact LeV.refl _
    · have e : lowB l = false:=by
        rw [Bool.eq_false_iff];exact fun hh => h0 (hlow.1 hh).1
      rw [e]
      simp (disch:=first|exact dd|fail) only [go_sem,seval]
      refine AL.step ?_
      simp (disch:=first|exact dd|fail) only [go_sem,seval]
      try exact LeV.refl _
  · have h : okPl l = false:=by simpa using h
    simp only [rpp,h,Bool.false_eq_true,if_false] at hP
    simp (disch:=first|exact dd|fail) only [go_sem,seval]
    refine cA hP ?_
    rw [h]
    simp (disch:=first|exact dd|fail) only [go_sem,seval]
    refine AL.step ?_
    simp (disch:=first|exact dd|fail) only [go_sem,seval]
    try exact LeV.refl _
def mB (m : Mn) : List UInt8:=[m.1,m.2.1,m.2.2]
def tB (t : Pt) : List UInt8:=mB t.1 ++ qB t.2
def tsB (l : List Pt) : List UInt8:=l.flatMap tB
def plB (l : List Pt) : List UInt8:=vput l.length ++ tsB l
theorem tsB_take {l : List Pt} {i : Nat} (hi : i < l.length) : tsB (l.take i) ++ tB (l.getD i pt0) = tsB (l.take (i + 1)):=by
  unfold tsB
  rw [List.take_succ_eq_append_getElem hi,List.flatMap_append,List.getD_eq_getElem?_getD,List.getElem?_eq_getElem hi]
  simp
theorem tsB_len {l : List Pt} (hq : ∀ p ∈ l,qb 1000000 p.2) : (tsB l).length ≤ 8000030 * l.length:=by
  induction l with
  | nil => simp [tsB]
  | cons p l ih =>
    have h1:=ih fun q hq' => hq q (List.mem_cons_of_mem _ hq')
    have h2:=qB_max (by omega) (hq p (List.mem_cons_self ..))
    have h3 : (tB p).length = 3 + (qB p.2).length:=by
      unfold tB mB
      rw [List.length_append]
      simp only [List.length_cons,List.length_nil]
    unfold tsB at *
    rw [List.flatMap_cons,List.length_append,List.length_cons]
    omega
theorem bstr_m3 (b ver k m : Nat) (z a : Bool) (x y u : UInt8) (h : Hp) : bstr ((b, .row z ver a k m (fun i => [D.int .u8 (x.toNat : Int), .int .u8 (y.toNat : Int), .int .u8 (u.toNat : Int)].getD i .unk)) :: h) (.sl b ver 0 3) = some (.str [x,y,u]):=by
  refine bstr_of (l:=[x,y,u]) (if_pos rfl) rfl fun i hi => ?_
  obtain rfl | rfl | rfl : i = 0 ∨ i = 1 ∨ i = 2:=by omega
  all_goals rfl
theorem bstr_v3 (b n ty : Nat) (x y u : UInt8) (r : List D) (h : Hp) : bstr ((b, .var true n (.agg (.int .u8 (x.toNat : Int) :: .int .u8 (y.toNat : Int) :: .int .u8 (u.toNat : Int) :: r)) ty) :: h) (.vs b 0 1 3) = some (.str [x,y,u]):=by
  have hl : 0 + 3 ≤ (D.int .u8 (x.toNat : Int) :: .int .u8 (y.toNat : Int) :: .int .u8 (u.toNat : Int) :: r).length:=by simp
  simp only [bstr,lookB,if_true,hl,true_and]
  rw [grd,if_pos (fun i hi => by
    obtain rfl | rfl | rfl : i = 0 ∨ i = 1 ∨ i = 2:=by omega
    all_goals rfl)]
  simp [List.range_succ,u8Of]
def pokD (l : List Tm) : D:=.tup [.str (if plOk l = true then plB (pV l) else []), .bool (plOk l)]
theorem pV_qb {l : List Tm} (h : okPl l = true) : ∀ p ∈ pV l,qb 1000000 p.2:=by
  unfold pV
  simp only [List.forall_mem_map]
  intro t ht
  obtain ⟨i,hi,rfl⟩:=List.mem_iff_getElem.1 ht
  unfold okPl at h
  rw [List.all_eq_true] at h
  have h1:=h i (List.mem_range.2 hi)
  unfold okT at h1
  rw [List.getD_eq_getElem?_getD,List.getElem?_eq_getElem hi,Option.getD_some] at h1
  cases hq : rpO l[i].2 with
  | none => rw [hq] at h1;simp at h1
  | some q => exact (rpO_qb hq).mono (by omega)
theorem r2_PutPoly {l : List Pt} (hq : ∀ p ∈ l,qb 1000000 p.2) (hl : l.length ≤ 100000) : C E 58 [rtD l] (.str (plB l)):=by
  refine CG_intro Tryz.func58 rfl (by kernel_rfl) rfl (by kernel_rfl) (by kernel_rfl) rfl ?_
  have hp:=r2_Put l.length (by omega)
  have hvl:=vput_len l.length (by omega)
  have hBt : ∀ i,i ≤ l.length → (tsB (l.take i)).length ≤ 8000030 * 100000:=fun i hi => by
    have:=tsB_len (l:=l.take i) fun p hp => hq p (List.mem_of_mem_take hp)
    rw [List.length_take,Nat.min_eq_left hi] at this
    omega
  simp (disch:=first|exact dd|fail) only [go_sem,seval,rtD]
  refine cA hp ?_
  simp (disch:=first|exact dd|fail) only [go_sem,seval]
  refine AL.of (fun i : Nat => i ≤ l.length) (fun i => l.length - i) (fun i => [(0,rtD l),(3, .str (vput l.length ++ tsB (l.take i))),(4, .int .i64 i)]) (fun _ => []) 0 (Nat.zero_le _) ?_ ?_ ?_ ?_
  · have e : vput l.length ++ tsB (l.take 0) = vput l.length:=by simp [tsB]
    rw [e]
    simp (disch:=first|exact dd|fail) only [go_sem,seval,rtD]
    try exact LeV.refl _
  · simp (disch:=first|exact dd|fail) only [go_sem,seval]
  · intro x _;simp (disch:=first|exact dd|fail) only [go_sem,seval]
  intro i hi
  by_cases hil : i = l.length
  · simp (disch:=first|exact dd|fail) only [go_sem,seval,rtD,hil,List.take_length]
    try exact LeV.refl _
  · have hp1 : rtR l i = rtC (l.getD i pt0):=rfl
    have a1:=hq (l.getD i pt0) (getD_mem' l i _ (by omega))
    have g1:=r2_PutRat (a1.mono (k:=40000000) (by omega))
    have l1:=qB_max (by omega) a1
    have hb:=hBt i hi
    have hb2:=tsB_take (l:=l) (i:=i) (by omega)
    have hb3 : (vput l.length ++ tsB (l.take i)) ++ mB (l.getD i pt0).1 ++ qB (l.getD i pt0).2 = vput l.length ++ tsB (l.take (i + 1)):=by
      rw [← hb2];unfold tB;simp only [List.append_assoc]
    have hml : (mB (l.getD i pt0).1).length = 3:=rfl
    generalize l.getD i pt0 = t at *
    obtain ⟨⟨x,y,z⟩,q⟩:=t
    simp only [mB] at g1 hb3 hml l1
    simp (disch:=first|exact dd|fail) only [go_sem,seval,rtD,hp1,rtC]
    refine AReg_anyL 30 [0,1,2,3,4,5,6,7,8,9,10,11,12,13,14,15,16,17,18,19,20,21,22,23,24,25,26,27,28,29] rfl rfl (by decide +kernel) ?_
    refine AAny_free 0 [1,2,3,4,5,6,7,8,9,10,11,12,13,14,15,16,17,18,19,20,21,22,23,24,25,26,27,28,29] (by decide +kernel) rfl ?_
    refine AI_at _ rfl ?_
    simp (disch:=first|exact dd|fail) only [go_sem,seval,rtD,hp1,rtC,bstr_m3,List.length_append,List.length_cons,List.length_nil,hb3]
    refine AAny_free 1 [2,3,4,5,6,7,8,9,10,11,12,13,14,15,16,17,18,19,20,21,22,23,24,25,26,27,28,29] (by decide +kernel) rfl ?_
    refine AI_at _ rfl ?_
    simp (disch:=first|exact dd|fail) only [go_sem,seval,rtD,hp1,rtC,bstr_m3,List.length_append,List.length_cons,List.length_nil,hb3]
    refine AAny_free 2 [3,4,5,6,7,8,9,10,11,12,13,14,15,16,17,18,19,20,21,22,23,24,25,26,27,28,29] (by decide +kernel) rfl ?_
    refine AI_at _ rfl ?_
    simp (disch:=first|exact dd|fail) only [go_sem,seval,rtD,hp1,rtC,bstr_m3,List.length_append,List.length_cons,List.length_nil,hb3]
    refine AAny_free 3 [4,5,6,7,8,9,10,11,12,13,14,15,16,17,18,19,20,21,22,23,24,25,26,27,28,29] (by decide +kernel) rfl ?_
    refine AI_at _ rfl ?_
    simp (disch:=first|exact dd|fail) only [go_sem,seval,rtD,hp1,rtC,bstr_m3,List.length_append,List.length_cons,List.length_nil,hb3]
    refine AAny_free 4 [5,6,7,8,9,10,11,12,13,14,15,16,17,18,19,20,21,22,23,24,25,26,27,28,29] (by decide +kernel) rfl ?_
    refine AI_at _ rfl ?_
    simp (disch:=first|exact dd|fail) only [go_sem,seval,rtD,hp1,rtC,bstr_m3,List.length_append,List.length_cons,List.length_nil,hb3]
    refine AAny_free 5 [6,7,8,9,10,11,12,13,14,15,16,17,18,19,20,21,22,23,24,25,26,27,28,29] (by decide +kernel) rfl ?_
    refine AI_at _ rfl ?_
    simp (disch:=first|exact dd|fail) only [go_sem,seval,rtD,hp1,rtC,bstr_m3,List.length_append,List.length_cons,List.length_nil,hb3]
    refine AAny_free 6 [7,8,9,10,11,12,13,14,15,16,17,18,19,20,21,22,23,24,25,26,27,28,29] (by decide +kernel) rfl ?_
    refine AI_at _ rfl ?_
    simp (disch:=first|exact dd|fail) only [go_sem,seval,rtD,hp1,rtC,bstr_m3,List.length_append,List.length_cons,List.length_nil,hb3]
    refine AAny_free 7 [8,9,10,11,12,13,14,15,16,17,18,19,20,21,22,23,24,25,26,27,28,29] (by decide +kernel) rfl ?_
    refine AI_at _ rfl ?_
    simp (disch:=first|exact dd|fail) only [go_sem,seval,rtD,hp1,rtC,bstr_m3,List.length_append,List.length_cons,List.length_nil,hb3]
    refine AAny_free 8 [9,10,11,12,13,14,15,16,17,18,19,20,21,22,23,24,25,26,27,28,29] (by decide +kernel) rfl ?_
    refine AI_at _ rfl ?_
    simp (disch:=first|exact dd|fail) only [go_sem,seval,rtD,hp1,rtC,bstr_m3,List.length_append,List.length_cons,List.length_nil,hb3]
    refine AAny_free 9 [10,11,12,13,14,15,16,17,18,19,20,21,22,23,24,25,26,27,28,29] (by decide +kernel) rfl ?_
    refine AI_at _ rfl ?_
    simp (disch:=first|exact dd|fail) only [go_sem,seval,rtD,hp1,rtC,bstr_m3,List.length_append,List.length_cons,List.length_nil,hb3]
    refine AAny_free 10 [11,12,13,14,15,16,17,18,19,20,21,22,23,24,25,26,27,28,29] (by decide +kernel) rfl ?_
    refine AI_at _ rfl ?_
    simp (disch:=first|exact dd|fail) only [go_sem,seval,rtD,hp1,rtC,bstr_m3,List.length_append,List.length_cons,List.length_nil,hb3]
    refine AAny_free 11 [12,13,14,15,16,17,18,19,20,21,22,23,24,25,26,27,28,29] (by decide +kernel) rfl ?_
    refine AI_at _ rfl ?_
    simp (disch:=first|exact dd|fail) only [go_sem,seval,rtD,hp1,rtC,bstr_m3,List.length_append,List.length_cons,List.length_nil,hb3]
    refine AAny_free 12 [13,14,15,16,17,18,19,20,21,22,23,24,25,26,27,28,29] (by decide +kernel) rfl ?_
    refine AI_at _ rfl ?_
    simp (disch:=first|exact dd|fail) only [go_sem,seval,rtD,hp1,rtC,bstr_m3,List.length_append,List.length_cons,List.length_nil,hb3]
    refine AAny_free 13 [14,15,16,17,18,19,20,21,22,23,24,25,26,27,28,29] (by decide +kernel) rfl ?_
    refine AI_at _ rfl ?_
    simp (disch:=first|exact dd|fail) only [go_sem,seval,rtD,hp1,rtC,bstr_m3,List.length_append,List.length_cons,List.length_nil,hb3]
    refine AAny_free 14 [15,16,17,18,19,20,21,22,23,24,25,26,27,28,29] (by decide +kernel) rfl ?_
    refine AI_at _ rfl ?_
    simp (disch:=first|exact dd|fail) only [go_sem,seval,rtD,hp1,rtC,bstr_m3,List.length_append,List.length_cons,List.length_nil,hb3]
    refine AAny_free 15 [16,17,18,19,20,21,22,23,24,25,26,27,28,29] (by decide +kernel) rfl ?_
    refine AI_at _ rfl ?_
    simp (disch:=first|exact dd|fail) only [go_sem,seval,rtD,hp1,rtC,bstr_m3,List.length_append,List.length_cons,List.length_nil,hb3]
    refine AAny_free 16 [17,18,19,20,21,22,23,24,25,26,27,28,29] (by decide +kernel) rfl ?_
    refine AI_at _ rfl ?_
    simp (disch:=first|exact dd|fail) only [go_sem,seval,rtD,hp1,rtC,bstr_m3,List.length_append,List.length_cons,List.length_nil,hb3]
    refine AAny_free 17 [18,19,20,21,22,23,24,25,26,27,28,29] (by decide +kernel) rfl ?_
    refine AI_at _ rfl ?_
    simp (disch:=first|exact dd|fail) only [go_sem,seval,rtD,hp1,rtC,bstr_m3,List.length_append,List.length_cons,List.length_nil,hb3]
    refine AAny_free 18 [19,20,21,22,23,24,25,26,27,28,29] (by decide +kernel) rfl ?_
    refine AI_at _ rfl ?_
    simp (disch:=first|exact dd|fail) only [go_sem,seval,rtD,hp1,rtC,bstr_m3,List.length_append,List.length_cons,List.length_nil,hb3]
    refine AAny_free 22 [19,20,21,23,24,25,26,27,28,29] (by decide +kernel) rfl ?_
    refine AI_at _ rfl ?_
    simp (disch:=first|exact dd|fail) only [go_sem,seval,rtD,hp1,rtC,bstr_m3,List.length_append,List.length_cons,List.length_nil,hb3]
    refine AAny_free 23 [19,20,21,24,25,26,27,28,29] (by decide +kernel) rfl ?_
    refine AI_at _ rfl ?_
    simp (disch:=first|exact dd|fail) only [go_sem,seval,rtD,hp1,rtC,bstr_m3,List.length_append,List.length_cons,List.length_nil,hb3]
    refine AAny_free 24 [19,20,21,25,26,27,28,29] (by decide +kernel) rfl ?_
    refine AI_at _ rfl ?_
    simp (disch:=first|exact dd|fail) only [go_sem,seval,rtD,hp1,rtC,bstr_m3,List.length_append,List.length_cons,List.length_nil,hb3]
    refine AAny_free 25 [19,20,21,26,27,28,29] (by decide +kernel) rfl ?_
    refine AI_at _ rfl ?_
    simp (disch:=first|exact dd|fail) only [go_sem,seval,rtD,hp1,rtC,bstr_m3,List.length_append,List.length_cons,List.length_nil,hb3]
    refine AAny_free 26 [19,20,21,27,28,29] (by decide +kernel) rfl ?_
    refine AI_at _ rfl ?_
    simp (disch:=first|exact dd|fail) only [go_sem,seval,rtD,hp1,rtC,bstr_m3,List.length_append,List.length_cons,List.length_nil,hb3]
    refine AAny_step [(19,[20,21,27,28,29]),(27,[19,20,21,28,29])] (by decide +kernel) rfl ?_
    refine forall_more ?_ ?_
    · refine AI_at _ rfl ?_
      simp (disch:=first|exact dd|fail) only [go_sem,seval,rtD,hp1,rtC,bstr_m3,List.length_append,List.length_cons,List.length_nil,hb3]
      refine AAny_free 20 [21,27,28,29] (by decide +kernel) rfl ?_
      refine AI_at _ rfl ?_
      simp (disch:=first|exact dd|fail) only [go_sem,seval,rtD,hp1,rtC,bstr_m3,List.length_append,List.length_cons,List.length_nil,hb3]
      refine AAny_free 21 [27,28,29] (by decide +kernel) rfl ?_
      refine AI_at _ rfl ?_
      simp (disch:=first|exact dd|fail) only [go_sem,seval,rtD,hp1,rtC,bstr_m3,List.length_append,List.length_cons,List.length_nil,hb3]
      refine AAny_free 27 [28,29] (by decide +kernel) rfl ?_
      refine AI_at _ rfl ?_
      simp (disch:=first|exact dd|fail) only [go_sem,seval,rtD,hp1,rtC,bstr_m3,List.length_append,List.length_cons,List.length_nil,hb3]
      refine cA g1 ?_
      simp (disch:=first|exact dd|fail) only [go_sem,seval]
      refine AAny_free 28 [29] (by decide +kernel) rfl ?_
      refine AI_at _ rfl ?_
      simp (disch:=first|exact dd|fail) only [go_sem,seval,rtD,hp1,rtC,bstr_m3,List.length_append,List.length_cons,List.length_nil,hb3]
      refine AAny_free 29 [] (by decide +kernel) rfl ?_
      refine AI_at _ rfl ?_
      simp (disch:=first|exact dd|fail) only [go_sem,seval,rtD,hp1,rtC,bstr_m3,List.length_append,List.length_cons,List.length_nil,hb3]
      refine AAny_end ?_
      simp (disch:=first|exact dd|fail) only [go_sem,seval]
      refine ⟨i + 1,by show i + 1 ≤ l.length;omega,by show l.length - (i + 1) < l.length - i;omega, ?_, ?_⟩
      · simp (disch:=first|exact dd|fail) only [go_sem,seval,rtD]
        try exact LeV.refl _
      · simp (disch:=first|exact dd|fail) only [go_sem,seval]
    refine forall_one ?_
    refine AI_at _ rfl ?_
    simp (disch:=first|exact dd|fail) only [go_sem,seval,rtD,hp1,rtC,bstr_m3,List.length_append,List.length_cons,List.length_nil,hb3]
    refine cA g1 ?_
    simp (disch:=first|exact dd|fail) only [go_sem,seval]
    refine AAny_free 19 [20,21,28,29] (by decide +kernel) rfl ?_
    refine AI_at _ rfl ?_
    simp (disch:=first|exact dd|fail) only [go_sem,seval,rtD,hp1,rtC,bstr_m3,List.length_append,List.length_cons,List.length_nil,hb3]
    refine AAny_free 20 [21,28,29] (by decide +kernel) rfl ?_
    refine AI_at _ rfl ?_
    simp (disch:=first|exact dd|fail) only [go_sem,seval,rtD,hp1,rtC,bstr_m3,List.length_append,List.length_cons,List.length_nil,hb3]
    refine AAny_free 21 [28,29] (by decide +kernel) rfl ?_
    refine AI_at _ rfl ?_
    simp (disch:=first|exact dd|fail) only [go_sem,seval,rtD,hp1,rtC,bstr_m3,List.length_append,List.length_cons,List.length_nil,hb3]
    refine AAny_free 28 [29] (by decide +kernel) rfl ?_
    refine AI_at _ rfl ?_
    simp (disch:=first|exact dd|fail) only [go_sem,seval,rtD,hp1,rtC,bstr_m3,List.length_append,List.length_cons,List.length_nil,hb3]
    refine AAny_free 29 [] (by decide +kernel) rfl ?_
    refine AI_at _ rfl ?_
    simp (disch:=first|exact dd|fail) only [go_sem,seval,rtD,hp1,rtC,bstr_m3,List.length_append,List.length_cons,List.length_nil,hb3]
    refine AAny_end ?_
    simp (disch:=first|exact dd|fail) only [go_sem,seval]
    refine ⟨i + 1,by show i + 1 ≤ l.length;omega,by show l.length - (i + 1) < l.length - i;omega, ?_, ?_⟩
    · simp (disch:=first|exact dd|fail) only [go_sem,seval,rtD]
      try exact LeV.refl _
    · simp (disch:=first|exact dd|fail) only [go_sem,seval]
theorem r2_PolyOk {l : List Tm} (hl : l.length ≤ 100000) (ht : ∀ p ∈ l,p.2.length < 9223372036854775808) : C E 32 [tmD l] (pokD l):=by
  refine CG_intro Tryz.func32 rfl (by kernel_rfl) rfl (by kernel_rfl) (by kernel_rfl) rfl ?_
  have hP:=r2_polyOk (l:=l) (by omega) ht
  have hlen:=pV_len l
  unfold poD at hP
  unfold pokD
  cases hk : plOk l with
  | false =>
    rw [hk] at hP
    cases ho : okPl l with
    | false =>
      simp only [ho,Bool.false_eq_true,if_false] at hP
      simp (disch:=first|exact dd|fail) only [go_sem,seval]
      refine cA hP ?_
      simp (disch:=first|exact dd|fail) only [go_sem,seval]
      try exact LeV.refl _
    | true =>
      simp only [ho,if_true] at hP
      simp (disch:=first|exact dd|fail) only [go_sem,seval]
      refine cA hP ?_
      simp (disch:=first|exact dd|fail) only [go_sem,seval]
      try exact LeV.refl _
  | true =>
    have ho : okPl l = true:=by unfold plOk at hk;simp at hk;exact hk.1
    rw [hk] at hP
    simp only [ho,if_true] at hP
    have hB:=r2_PutPoly (l:=pV l) (pV_qb ho) (by omega)
    simp (disch:=first|exact dd|fail) only [go_sem,seval]
    refine cA hP ?_
    simp (disch:=first|exact dd|fail) only [go_sem,seval]
    refine cA hB ?_
    simp (disch:=first|exact dd|fail) only [go_sem,seval]
    try exact LeV.refl _
theorem clone_pt {l : List Pt} (hn : l.length < 1073741824) : C E 142 [ptsD l] (ptsD l):=by
  refine CG_intro Tryz.func142 rfl (by kernel_rfl) rfl (by kernel_rfl) (by kernel_rfl) rfl ?_
  simp (disch:=first|exact dd|fail) only [go_sem,seval,ptsD]
  intro b hb
  cases b with
  | false =>
    rw [KE_eq]
    simp (disch:=first|exact dd|fail) only [go_sem,seval,ptsD]
    refine ⟨.inl trivial, .inr trivial,by omega,by omega, ?_⟩
    try exact LeV.refl _
  | true =>
    have h0 : l.length = 0:=hb rfl
    rw [KE_eq]
    simp (disch:=first|exact dd|fail) only [go_sem,seval,ptsD,h0]
    try exact LeV.nils
theorem poly_Terms {l : List Pt} (hn : l.length < 1073741824) : C E 97 [pD l] (ptsD l):=by
  refine CG_intro Tryz.func97 rfl (by kernel_rfl) rfl (by kernel_rfl) (by kernel_rfl) rfl ?_
  have hC:=clone_pt hn
  simp (disch:=first|exact dd|fail) only [go_sem,seval,pD]
  refine cA hC ?_
  simp (disch:=first|exact dd|fail) only [go_sem,seval]
theorem putPoly {l : List Pt} (hq : ∀ p ∈ l,qb 1000000 p.2) (hl : l.length ≤ 100000) : C E 53 [pD l] (.str (plB l)):=by
  refine CG_intro Tryz.func53 rfl (by kernel_rfl) rfl (by kernel_rfl) (by kernel_rfl) rfl ?_
  have hT:=poly_Terms (l:=l) (by omega)
  have hp:=vint_Put l.length (by omega)
  have hvl:=vput_len l.length (by omega)
  have hvp:=vput_pos l.length
  have hBt : ∀ i,i ≤ l.length → (tsB (l.take i)).length ≤ 8000030 * 100000:=fun i hi => by
    have:=tsB_len (l:=l.take i) fun p hp => hq p (List.mem_of_mem_take hp)
    rw [List.length_take,Nat.min_eq_left hi] at this
    omega
  simp (disch:=first|exact dd|fail) only [go_sem,seval,pD]
  refine cA hT ?_
  simp (disch:=first|exact dd|fail) only [go_sem,seval,ptsD]
  refine cA hp ?_
  simp (disch:=first|exact dd|fail) only [go_sem,seval]
  refine callG [1] (sbWrite0 (vput l.length) (by omega)) rfl rfl (LesV.refl _) rfl ?_
  simp (disch:=first|exact dd|fail) only [go_sem,seval,sbR]
  refine AL.of (fun i : Nat => i ≤ l.length) (fun i => l.length - i) (fun i => [(3, .ad 1 0),(14,ptsD l),(15, .int .i64 l.length),(16, .int .i64 i)])
    (fun i => [(1, .var true 2 (.agg [.ad 1 0, .sl 4 (2 * i) 0 (vput l.length ++ tsB (l.take i)).length]) 116),(4,sbW (2 * i) (vput l.length ++ tsB (l.take i)))]) 0 (Nat.zero_le _) ?_ ?_ ?_ ?_
  · simp (disch:=first|exact dd|fail) only [go_sem,seval,ptsD]
    try exact LeV.refl _
  · have e : vput l.length ++ tsB (l.take 0) = vput l.length:=by simp [tsB]
    rw [e]
    simp (disch:=first|exact dd|fail) only [go_sem,seval,sbW]
    try exact fun _ _ => trivial
  · intro x _;simp (disch:=first|exact dd|fail) only [go_sem,seval,sbW]
  intro i hi
  have hb:=hBt i hi
  have hbl : (vput l.length ++ tsB (l.take i)).length = (vput l.length).length + (tsB (l.take i)).length:=List.length_append
  by_cases hil : i = l.length
  · skip
    subst hil
    rw [List.take_length] at hb hbl ⊢
    unfold plB
    generalize hT1 : vput l.length ++ tsB l = m at *
    simp (disch:=first|exact dd|fail) only [go_sem,seval,sbW,ptsD]
    refine callG [1,4] (sbString (2 * l.length) m (by omega)) rfl rfl (LesV.refl _) rfl ?_
    simp (disch:=first|exact dd|fail) only [go_sem,seval]
    try exact LeV.refl _
  · have hp1 : ptR l i = ptC (l.getD i pt0):=rfl
    have a1:=hq (l.getD i pt0) (getD_mem' l i _ (by omega))
    have g1:=vint_PutRat (a1.mono (k:=40000000) (by omega))
    have l1:=qB_max (by omega) a1
    have hb2:=tsB_take (l:=l) (i:=i) (by omega)
    have hb3 : (vput l.length ++ tsB (l.take i)) ++ mB (l.getD i pt0).1 ++ qB (l.getD i pt0).2 = vput l.length ++ tsB (l.take (i + 1)):=by
      rw [← hb2];unfold tB;simp only [List.append_assoc]
    generalize l.getD i pt0 = t at *
    obtain ⟨⟨x,y,z⟩,q⟩:=t
    simp only [mB] at g1 hb3 l1
    generalize hT1 : vput l.length ++ tsB (l.take i) = m at *
    generalize hT2 : vput l.length ++ tsB (l.take (i + 1)) = m' at *
    simp (disch:=first|exact dd|fail) only [go_sem,seval,sbW,ptsD,hp1,ptC,bstr_v3]
    refine callG [1,4] (sbWrite1 (2 * i) m [x,y,z] (by simp;omega)) rfl rfl (LesV.refl _) rfl ?_
    simp (disch:=first|exact dd|fail) only [go_sem,seval,sbU]
    refine cA g1 ?_
    simp (disch:=first|exact dd|fail) only [go_sem,seval]
    have hw:=sbWrite1 (2 * i + 1) (m ++ [x,y,z]) (qB q) (by simp;omega)
    rw [hb3,List.length_append] at hw
    refine callG [1,4] hw rfl rfl (LesV.refl _) rfl ?_
    simp (disch:=first|exact dd|fail) only [go_sem,seval,sbU]
    have hlm : m'.length = m.length + 3 + (qB q).length:=by rw [← hb3];simp;omega
    have hlm2 : (vput l.length).length + (tsB (l.take (i + 1))).length = m.length + 3 + (qB q).length:=by rw [← hlm,← hT2,List.length_append]
    have e2 : 2 * (i + 1) = 2 * i + 1 + 1:=by omega
    refine ⟨i + 1,by show i + 1 ≤ l.length;omega,by show l.length - (i + 1) < l.length - i;omega, ?_, ?_⟩
    · simp (disch:=first|exact dd|fail) only [go_sem,seval,ptsD]
      try exact LeV.refl _
    · simp (disch:=first|exact dd|fail) only [go_sem,seval,hT2,hlm,hlm2,e2]
      try exact fun _ _ => trivial
theorem claim_PutPoly {l : List Tm} (hl : l.length ≤ 100000) (ht : ∀ p ∈ l,p.2.length < 9223372036854775808) : C E 31 [tmD l] (pokD l):=by
  refine CG_intro Tryz.func31 rfl (by kernel_rfl) rfl (by kernel_rfl) (by kernel_rfl) rfl ?_
  have hP:=poly_Parse (l:=l) (by omega) ht
  have hL:=claim_low (l:=l) (by omega)
  have hlen:=pV_len l
  unfold ppD at hP
  unfold pokD plOk
  cases ho : okPl l with
  | false =>
    simp only [ho,Bool.false_eq_true,if_false] at hP
    simp (disch:=first|exact dd|fail) only [go_sem,seval,pD]
    refine cA hP ?_
    simp (disch:=first|exact dd|fail) only [go_sem,seval,pD]
    try exact LeV.refl _
  | true =>
    simp only [ho,if_true] at hP
    cases hk : lowB l with
    | false =>
      rw [hk] at hL
      simp (disch:=first|exact dd|fail) only [go_sem,seval,pD]
      refine cA hP ?_
      simp (disch:=first|exact dd|fail) only [go_sem,seval,pD]
      refine cA hL ?_
      simp (disch:=first|exact dd|fail) only [go_sem,seval,pD]
      try exact LeV.refl _
    | true =>
      have hB:=putPoly (l:=pV l) (pV_qb ho) (by omega)
      rw [hk] at hL
      simp (disch:=first|exact dd|fail) only [go_sem,seval,pD]
      refine cA hP ?_
      simp (disch:=first|exact dd|fail) only [go_sem,seval,pD]
      refine cA hL ?_
      simp (disch:=first|exact dd|fail) only [go_sem,seval,pD]
      refine cA hB ?_
      simp (disch:=first|exact dd|fail) only [go_sem,seval,pD]
      try exact LeV.refl _
def valB : List UInt8 → Nat
  | [] => 0
  | c :: l => c.toNat * 256 ^ l.length + valB l
theorem valB_lt : ∀ l : List UInt8,valB l < 256 ^ l.length
  | [] => by simp [valB]
  | c :: l => by
    have h:=valB_lt l
    have hc:=c.toNat_lt
    simp only [valB,List.length_cons,Nat.pow_succ]
    generalize 256 ^ l.length = p at *
    have : c.toNat * p ≤ 255 * p:=Nat.mul_le_mul_right _ (by omega)
    omega
def loB (l : List UInt8) (i : Nat) : Nat:=valB (l.drop (l.length - i))
theorem loB_zero (l : List UInt8) : loB l 0 = 0:=by unfold loB;rw [Nat.sub_zero,List.drop_length];rfl
theorem loB_all (l : List UInt8) : loB l l.length = valB l:=by unfold loB;rw [Nat.sub_self,List.drop_zero]
theorem loB_lt {l : List UInt8} {i : Nat} (h : i ≤ l.length) : loB l i < 256 ^ i:=by
  have:=valB_lt (l.drop (l.length - i))
  rw [List.length_drop,show l.length - (l.length - i) = i by omega] at this
  exact this
theorem loB_succ {l : List UInt8} {i : Nat} (h : i < l.length) : loB l (i + 1) = 256 ^ i * (l.getD (l.length - 1 - i) 0).toNat + loB l i:=by
  unfold loB
  rw [List.drop_eq_getElem_cons (i:=l.length - (i + 1)) (by omega),valB,List.length_drop,show l.length - (i + 1) + 1 = l.length - i by omega,show l.length - (l.length - i) = i by omega,List.getD_eq_getElem?_getD,show l.length - 1 - i = l.length - (i + 1) by omega,List.getElem?_eq_getElem (by omega),Option.getD_some,Nat.mul_comm]
def lmb (N x : Nat) : List Nat:=(List.range N).map fun j => x / 4294967296 ^ j % 4294967296
theorem lmb_len (N x : Nat) : (lmb N x).length = N:=by unfold lmb;rw [List.length_map,List.length_range]
theorem lmb_lows (N x : Nat) : lows (lmb N x):=fun y hy => by
  obtain ⟨j,_,rfl⟩:=List.mem_map.1 hy
  exact Nat.mod_lt _ (by omega)
theorem lmb_at {N x j : Nat} (h : j < N) : (lmb N x).getD j 0 = x / 4294967296 ^ j % 4294967296:=by
  unfold lmb
  rw [List.getD_eq_getElem?_getD,List.getElem?_map,List.getElem?_range h]
  rfl
theorem val_lmb (x : Nat) : ∀ N,val (lmb N x) = x % 4294967296 ^ N
  | 0 => by
    have : x % 4294967296 ^ 0 = 0:=by rw [Nat.pow_zero];exact Nat.mod_one x
    rw [this];rfl
  | N + 1 => by
    have h:=val_lmb x N
    have e : lmb (N + 1) x = lmb N x ++ [x / 4294967296 ^ N % 4294967296]:=by unfold lmb;rw [List.range_succ,List.map_append];rfl
    rw [e,val_append,lmb_len,h,Nat.pow_succ,Nat.mod_mul]
    simp [val]
theorem lmb_fin {l : List UInt8} {N : Nat} (h : l.length ≤ 4 * N) : val (lmb N (valB l)) = valB l:=by
  rw [val_lmb]
  refine Nat.mod_eq_of_lt (Nat.lt_of_lt_of_le (valB_lt l) ?_)
  have e : (4294967296 : Nat) ^ N = 256 ^ (4 * N):=by rw [Nat.pow_mul]
  rw [e]
  exact Nat.pow_le_pow_right (by omega) h
theorem p256 (i : Nat) : 256 ^ i = 4294967296 ^ (i / 4) * 2 ^ (8 * (i % 4)):=by
  have e1 : (256 : Nat) ^ i = 2 ^ (8 * i):=by rw [Nat.pow_mul]
  have e2 : 8 * i = 32 * (i / 4) + 8 * (i % 4):=by omega
  rw [e1,e2,Nat.pow_add,Nat.pow_mul]
theorem lmb_here {x i c : Nat} (hx : x < 256 ^ i) (hc : c < 256) : x / 4294967296 ^ (i / 4) % 4294967296 < 2 ^ (8 * (i % 4)) ∧
    (256 ^ i * c + x) / 4294967296 ^ (i / 4) % 4294967296 = x / 4294967296 ^ (i / 4) % 4294967296 + 2 ^ (8 * (i % 4)) * c ∧ 2 ^ (8 * (i % 4)) * c < 4294967296:=by
  have hp : 0 < 4294967296 ^ (i / 4):=Nat.pow_pos (by omega)
  have hr : 2 ^ (8 * (i % 4)) ≤ 16777216:=by
    have : 2 ^ (8 * (i % 4)) ≤ 2 ^ 24:=Nat.pow_le_pow_right (by omega) (by omega)
    simpa using this
  rw [p256] at hx ⊢
  have h1 : x / 4294967296 ^ (i / 4) < 2 ^ (8 * (i % 4)):=Nat.div_lt_of_lt_mul hx
  have h2 : (4294967296 ^ (i / 4) * 2 ^ (8 * (i % 4)) * c + x) / 4294967296 ^ (i / 4) = 2 ^ (8 * (i % 4)) * c + x / 4294967296 ^ (i / 4):=by
    rw [Nat.mul_assoc,Nat.mul_add_div hp]
  rw [h2]
  generalize x / 4294967296 ^ (i / 4) = q at *
  have h3 : 2 ^ (8 * (i % 4)) * c ≤ 2 ^ (8 * (i % 4)) * 255:=Nat.mul_le_mul_left _ (by omega)
  generalize 2 ^ (8 * (i % 4)) * c = m at *
  generalize 2 ^ (8 * (i % 4)) = r at *
  clear hx h2 hp
  omega
theorem lmb_else {x i c j : Nat} (hx : x < 256 ^ i) (hc : c < 256) (hj : j ≠ i / 4) : (256 ^ i * c + x) / 4294967296 ^ j % 4294967296 = x / 4294967296 ^ j % 4294967296:=by
  rcases Nat.lt_or_gt_of_ne hj with h | h
  · have hp : 0 < 4294967296 ^ j:=Nat.pow_pos (by omega)
    have e : 4294967296 ^ (i / 4) = 4294967296 ^ j * (4294967296 * 4294967296 ^ (i / 4 - j - 1)):=by
      rw [← Nat.pow_succ',← Nat.pow_add]
      congr 1
      omega
    rw [p256,e]
    rw [show 4294967296 ^ j * (4294967296 * 4294967296 ^ (i / 4 - j - 1)) * 2 ^ (8 * (i % 4)) * c = 4294967296 ^ j * (4294967296 * (4294967296 ^ (i / 4 - j - 1) * 2 ^ (8 * (i % 4)) * c)) by simp only [Nat.mul_assoc],Nat.mul_add_div hp,Nat.mul_add_mod]
  · have h1 : 256 ^ (i + 1) ≤ 4294967296 ^ j:=by
      have e1 : (4294967296 : Nat) ^ j = 256 ^ (4 * j):=by rw [Nat.pow_mul]
      rw [e1]
      exact Nat.pow_le_pow_right (by omega) (by omega)
    have h2 : 256 ^ i * c + x < 256 ^ (i + 1):=by
      rw [Nat.pow_succ]
      have : 256 ^ i * c ≤ 256 ^ i * 255:=Nat.mul_le_mul_left _ (by omega)
      generalize 256 ^ i = p at *
      omega
    rw [Nat.div_eq_of_lt (by omega),Nat.div_eq_of_lt (by omega)]
theorem bits_or_u32N (a b : Nat) (ha : a < 4294967296) (hb : b < 4294967296) : bits .u32 .or (a : Int) (b : Int) = ((a ||| b : Nat) : Int):=by
  have e : ∀ v : Nat,v < 4294967296 → (BitVec.ofInt IntKind.u32.bits (v : Int)).toNat = v:=fun v hv => by
    show (BitVec.ofInt 32 (v : Int)).toNat = v
    simp;omega
  have hlt : a ||| b < 4294967296:=Nat.or_lt_two_pow (n:=32) ha hb
  unfold bits
  simp only [BitVec.toNat_or,e a ha,e b hb]
  rw [wrap_u32',Int.emod_eq_of_lt (by omega) (by omega)]
theorem lmb_or {x i c : Nat} (hx : x < 256 ^ i) (hc : c < 256) : bits .u32 .or ((x / 4294967296 ^ (i / 4) % 4294967296 : Nat) : Int) (IntKind.u32.wrap ((c : Int) * ((2 ^ (8 * (i % 4)) : Nat) : Int))) = (((256 ^ i * c + x) / 4294967296 ^ (i / 4) % 4294967296 : Nat) : Int):=by
  obtain ⟨h1,h2,h3⟩:=lmb_here hx hc
  rw [h2]
  generalize x / 4294967296 ^ (i / 4) % 4294967296 = q at *
  have h4 : 2 ^ (8 * (i % 4)) ≤ 16777216:=by
    have : 2 ^ (8 * (i % 4)) ≤ 2 ^ 24:=Nat.pow_le_pow_right (by omega) (by omega)
    simpa using this
  have e : ((c : Int) * ((2 ^ (8 * (i % 4)) : Nat) : Int)) = ((2 ^ (8 * (i % 4)) * c : Nat) : Int):=by rw [Int.natCast_mul,Int.mul_comm]
  rw [e,wrap_u32 (by omega),bits_or_u32N _ _ (by omega) h3]
  have:=or_addN (8 * (i % 4)) c q h1
  rw [this]
def zhd (b : List UInt8) : Bool:=decide (0 < b.length ∧ (b.getD 0 0).toNat = 0)
def rdV (b : List UInt8) : Nat:=if zhd b = true then 0 else valB b
theorem valB_nb (b : List UInt8) : nb (valB b) ≤ b.length / 4 + 1:=by
  refine nb_lt.2 ?_
  have e : (4294967296 : Nat) ^ (b.length / 4 + 1) = 256 ^ (4 * (b.length / 4 + 1)):=by rw [Nat.pow_mul]
  rw [e]
  exact Nat.lt_of_lt_of_le (valB_lt b) (Nat.pow_le_pow_right (by omega) (by omega))
def zget (b : List UInt8) (a bits : Int) : Int × Nat × Nat:=
  if (vget b a).2.2 ≠ 0 then (0,0,(vget b a).2.2) else
  if (max bits 0).toNat / 8 + 1 < (vget b a).1 / 2 then (0,0,15) else
  if b.length - (vget b a).2.1 < (vget b a).1 / 2 then (0,0,4) else
  if zhd ((b.take ((vget b a).2.1 + (vget b a).1 / 2)).drop (vget b a).2.1) = true ∨ (vget b a).1 = 1 then (0,0,2) else
  if (max bits 0).toNat < nbit (valB ((b.take ((vget b a).2.1 + (vget b a).1 / 2)).drop (vget b a).2.1)) then (0,0,15) else
  (mkZ (decide ((vget b a).1 % 2 = 1)) (valB ((b.take ((vget b a).2.1 + (vget b a).1 / 2)).drop (vget b a).2.1)),(vget b a).2.1 + (vget b a).1 / 2,0)
theorem vgo_end (b : List UInt8) (a : Nat) : ∀ (f i v : Nat),(vgo b a i v f).2.2 = 0 → a + i + 1 ≤ (vgo b a i v f).2.1 ∧ (vgo b a i v f).2.1 ≤ b.length
  | 0,i,v,h => by simp [vgo] at h
  | f + 1,i,v,h => by
    rw [vgo] at h ⊢
    split
    · rename_i h1;rw [if_pos h1] at h;cases h
    rename_i h1
    rw [if_neg h1] at h
    split
    · rename_i h2;rw [if_pos h2] at h;cases h
    rename_i h2
    rw [if_neg h2] at h
    split
    · exact ⟨Nat.le_refl _,by show a + i + 1 ≤ _;omega⟩
    rename_i h3
    rw [if_neg h3] at h
    have:=vgo_end b a f (i + 1) _ h
    omega
theorem vget_end {b : List UInt8} {a : Int} (h : (vget b a).2.2 = 0) : 0 ≤ a ∧ a.toNat + 1 ≤ (vget b a).2.1 ∧ (vget b a).2.1 ≤ b.length:=by
  unfold vget at h ⊢
  split
  · rename_i h1;rw [if_pos h1] at h;cases h
  · rename_i h1
    rw [if_neg h1] at h
    have:=vgo_end b a.toNat 10 0 0 h
    omega
theorem vgo_err (b : List UInt8) (a : Nat) : ∀ (f i v : Nat),(vgo b a i v f).2.2 ≠ 0 → (vgo b a i v f).1 = 0 ∧ (vgo b a i v f).2.1 = 0 ∧ ((vgo b a i v f).2.2 = 4 ∨ (vgo b a i v f).2.2 = 6)
  | 0,i,v,h => by simp [vgo]
  | f + 1,i,v,h => by
    rw [vgo] at h ⊢
    split
    · simp
    rename_i h1
    rw [if_neg h1] at h
    split
    · simp
    rename_i h2
    rw [if_neg h2] at h
    split
    · rename_i h3;rw [if_pos h3] at h;exact absurd rfl h
    rename_i h3
    rw [if_neg h3] at h
    exact vgo_err b a f (i + 1) _ h
theorem vget_err {b : List UInt8} {a : Int} (h : (vget b a).2.2 ≠ 0) : (vget b a).1 = 0 ∧ (vget b a).2.1 = 0 ∧ ((vget b a).2.2 = 1 ∨ (vget b a).2.2 = 4 ∨ (vget b a).2.2 = 6):=by
  unfold vget at h ⊢
  split
  · simp
  · rename_i h1
    rw [if_neg h1] at h
    have:=vgo_err b a.toNat 10 0 0 h
    exact ⟨this.1,this.2.1, .inr this.2.2⟩
theorem vget_lt (b : List UInt8) (a : Int) : (vget b a).1 < 18446744073709551616:=by
  have key : ∀ (f i v : Nat),i + f = 10 → (i < 10 → v < 2 ^ (7 * i)) → (vgo b a.toNat i v f).1 < 18446744073709551616:=by
    intro f
    induction f with
    | zero => intro i v _ _;simp [vgo]
    | succ f ih =>
      intro i v hif hv
      rw [vgo]
      split
      · simp
      split
      · simp
      rename_i h2
      have hc : (b.getD (a.toNat + i) 0).toNat % 128 < 128:=Nat.mod_lt _ (by omega)
      have hn:=vgo_next (v:=v) ((b.getD (a.toNat + i) 0).toNat % 128) (i:=i) (by omega) hc (by omega) (hv (by omega))
      split
      · exact hn.1
      · exact ih (i + 1) _ (by omega) fun h => hn.2.1 (by omega)
  unfold vget
  split
  · simp
  · exact key 10 0 0 rfl fun _ => by decide
theorem zget_ok {b : List UInt8} {a bits : Int} (h : (zget b a bits).2.2 = 0) : 0 ≤ a ∧ a.toNat + 1 ≤ (zget b a bits).2.1 ∧ (zget b a bits).2.1 ≤ b.length ∧ zb (zget b a bits).1 ≤ b.length / 4 + 1:=by
  unfold zget at h ⊢
  split
  · rename_i h1;rw [if_pos h1] at h;exact absurd h h1
  rename_i h1
  rw [if_neg h1] at h
  have hv:=vget_end (b:=b) (a:=a) (by omega)
  split
  · rename_i h2;rw [if_pos h2] at h;cases h
  rename_i h2
  rw [if_neg h2] at h
  split
  · rename_i h3;rw [if_pos h3] at h;cases h
  rename_i h3
  rw [if_neg h3] at h
  split
  · rename_i h4;rw [if_pos h4] at h;cases h
  rename_i h4
  rw [if_neg h4] at h
  split
  · rename_i h5;rw [if_pos h5] at h;cases h
  refine ⟨hv.1,by show a.toNat + 1 ≤ (vget b a).2.1 + (vget b a).1 / 2;omega,by show (vget b a).2.1 + (vget b a).1 / 2 ≤ _;omega, ?_⟩
  have hn:=valB_nb ((b.take ((vget b a).2.1 + (vget b a).1 / 2)).drop (vget b a).2.1)
  rw [List.length_drop,List.length_take] at hn
  show zb (mkZ _ _) ≤ _
  unfold zb
  rw [mkZ_abs]
  omega
theorem zget_err {b : List UInt8} {a bits : Int} (h : (zget b a bits).2.2 ≠ 0) : (zget b a bits).1 = 0 ∧ (zget b a bits).2.1 = 0 ∧ (zget b a bits).2.2 < 18:=by
  unfold zget at h ⊢
  split
  · rename_i h1
    have:=vget_err h1
    simp;omega
  split
  · simp
  split
  · simp
  split
  · simp
  split
  · simp
  · rename_i h1 h2 h3 h4 h5
    rw [if_neg h1,if_neg h2,if_neg h3,if_neg h4,if_neg h5] at h
    exact absurd rfl h
def qget (b : List UInt8) (a bits : Int) : Rat × Nat × Nat:=
  if (zget b a bits).2.2 ≠ 0 then (0,0,(zget b a bits).2.2) else
  if (zget b (zget b a bits).2.1 bits).2.2 ≠ 0 then (0,0,(zget b (zget b a bits).2.1 bits).2.2) else
  if (zget b (zget b a bits).2.1 bits).1 ≤ 0 ∨ Nat.gcd (zget b (zget b a bits).2.1 bits).1.natAbs (zget b a bits).1.natAbs ≠ 1 then (0,0,2) else
  (mkRat (zget b a bits).1 (zget b (zget b a bits).2.1 bits).1.natAbs,(zget b (zget b a bits).2.1 bits).2.1,0)
end Go.Proofs.YtakaojkfipnfcaaGreatDoor.Lv
