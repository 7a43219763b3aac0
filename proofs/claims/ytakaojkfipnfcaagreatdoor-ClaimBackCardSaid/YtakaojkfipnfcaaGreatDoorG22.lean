/- The law of a box' texts: the walk. Boxes as bytes: texts; the document's. Reading bytes: what the readers make, in plain words. The document's quotients: RatNew. Numbers out of bytes. Whole numbers and quotients out of bytes. -/
import Derived.Test.YtakaojkfipnfcaaGreatDoorG21
import Derived.Test.YtakaojkfipnfcaaGreatDoorG19
import Derived.Test.YtakaojkfipnfcaaGreatDoorG18
set_option linter.unusedVariables false
set_option linter.unusedSimpArgs false
set_option maxRecDepth 100000
set_option maxHeartbeats 4000000
namespace Go.Proofs.YtakaojkfipnfcaaGreatDoor.Lv
open Go Go.RowKit
theorem sideR_text {a b : Txt} (h : (sideR a b).2 = 0) : plQ (sideR a b).1 = (a,b):=by
  have hs : (spR a b).2 = 0 → plQ (spR a b).1 = (a,b):=by
    unfold spR
    cases ha : rpO a with
    | none => intro h;exact absurd h (show ¬ (2 : Int) = 0 by decide)
    | some x =>
      cases hb : rpO b with
      | none => intro h;exact absurd h (show ¬ (2 : Int) = 0 by decide)
      | some y =>
        simp only
        split
        · intro h;exact absurd h (by decide)
        · intro _
          unfold plQ
          rw [rpO_text ha,rpO_text hb]
  unfold sideR at h ⊢
  split at h
  · rename_i h1;exact absurd h h1
  · rename_i h1
    split at h
    · exact absurd h (by decide)
    · rename_i h2
      split at h
      · rename_i h3
        rw [if_neg h1,if_neg h2,if_pos h3]
        exact hs (by simpa using h1)
      · exact absurd h (by decide)
theorem boxR_text {l : List (Txt × Txt)} (h : (boxR l).2 = 0) : (boxR l).1.map plQ = l:=by
  unfold boxR at h ⊢
  split at h
  · exact absurd h (by decide)
  · rename_i hlen
    rw [if_neg hlen]
    unfold sidesR at h ⊢
    split at h
    · rename_i p hp
      have:=List.find?_some hp
      exact absurd h (of_decide_eq_true this)
    · rename_i hf
      have hz : ∀ p ∈ l,(sideR p.1 p.2).2 = 0:=fun p hp => by
        have:=List.find?_eq_none.1 hf p hp
        simpa using this
      show (l.map fun p => (sideR p.1 p.2).1).map plQ = l
      rw [List.map_map]
      conv => rhs;rw [← List.map_id l]
      refine List.map_congr_left fun p hp => ?_
      exact sideR_text (hz p hp)
def bxOkD (l : List (Txt × Txt)) : D:=.tup [.str (if (boxR l).2 = 0 then bxBy (boxR l).1 else []), .bool (decide ((boxR l).2 = 0))]
theorem claim_PutBox {l : List (Txt × Txt)} (hl : l.length < 1073741824) (ht : ∀ p ∈ l,p.1.length < 9223372036854775808 ∧ p.2.length < 9223372036854775808) : C E 25 [txD l] (bxOkD l):=by
  refine CG_intro Tryz.func25 rfl (by kernel_rfl) rfl (by kernel_rfl) (by kernel_rfl) rfl ?_
  have hP:=box_Parse hl ht
  unfold bxOkD
  by_cases h : (boxR l).2 = 0
  · obtain ⟨⟨q1,q2,q3⟩,q4,q5⟩:=boxR_ok h
    have hB:=putBox (l:=(boxR l).1) (fun p hp => ⟨(q3 p hp).1.mono (by omega),(q3 p hp).2.mono (by omega)⟩) (by omega) (by omega)
    simp only [boxD,if_pos h] at hP
    simp (disch:=first|exact dd|fail) only [go_sem,seval]
    refine cA hP ?_
    simp (disch:=first|exact dd|fail) only [go_sem,seval,h]
    refine cA hB ?_
    simp (disch:=first|exact dd|fail) only [go_sem,seval]
    try exact LeV.refl _
  · simp only [boxD,if_neg h] at hP
    simp (disch:=first|exact dd|fail) only [go_sem,seval]
    refine cA hP ?_
    simp (disch:=first|exact dd|fail) only [go_sem,seval,h]
    try exact LeV.refl _
abbrev Rs:=Nat × Nat
def byF (b : List UInt8) (s : Rs) : Nat × Rs:=if s.2 ≠ 0 then (0,s) else if b.length ≤ s.1 then (0,(s.1,4)) else ((b.getD s.1 0).toNat,(s.1 + 1,0))
def cnF (b : List UInt8) (lo hi : Nat) (s : Rs) : Nat × Rs:=if (byF b s).2.2 ≠ 0 then (0,(byF b s).2) else if (byF b s).1 < lo ∨ hi < (byF b s).1 then (0,((byF b s).2.1,2)) else byF b s
def raF (b : List UInt8) (bits : Int) (s : Rs) : Txt × Rs:=if s.2 ≠ 0 then ([],s) else (decQ (qget b s.1 bits).1,(qget b s.1 bits).2)
def prF (b : List UInt8) (bits : Int) (s : Rs) : (Txt × Txt) × Rs:=(((raF b bits s).1,(raF b bits (raF b bits s).2).1),(raF b bits (raF b bits s).2).2)
def bxG (b : List UInt8) (bits : Int) : Nat → List (Txt × Txt) → Rs → List (Txt × Txt) × Rs
  | 0,acc,s => (acc,s)
  | k + 1,acc,s => if s.2 ≠ 0 then (acc,s) else bxG b bits k (acc ++ [(prF b bits s).1]) (prF b bits s).2
def frm {α : Type} (ok : α → Bool) (x : α × Rs) : α × Rs:=if x.2.2 = 0 ∧ ok x.1 = false then (x.1,(x.2.1,2)) else x
def bxF (b : List UInt8) (bits : Int) (n : Nat) (s : Rs) : List (Txt × Txt) × Rs:=frm (fun l => decide ((boxR l).2 = 0)) (bxG b bits n [] s)
def tmF (b : List UInt8) (bits : Int) (s : Rs) : Tm × Rs:=
  ((((UInt8.ofNat (byF b s).1),(UInt8.ofNat (byF b (byF b s).2).1),(UInt8.ofNat (byF b (byF b (byF b s).2).2).1)),(raF b bits (byF b (byF b (byF b s).2).2).2).1),(raF b bits (byF b (byF b (byF b s).2).2).2).2)
def plG (b : List UInt8) (bits : Int) : Nat → List Tm → Rs → List Tm × Rs
  | 0,acc,s => (acc,s)
  | k + 1,acc,s => if s.2 ≠ 0 then (acc,s) else plG b bits k (acc ++ [(tmF b bits s).1]) (tmF b bits s).2
def plS (b : List UInt8) (T : Int) (at_ : Nat) : Rs:=((vget b at_).2.1,if (vget b at_).2.2 = 0 ∧ max T 0 < ((vget b at_).1 : Int) then 16 else (vget b at_).2.2)
def plF (b : List UInt8) (T bits : Int) (s : Rs) : List Tm × Rs:=if s.2 ≠ 0 then ([],s) else frm plOk (plG b bits (vget b s.1).1 [] (plS b T s.1))
theorem byF_err {b : List UInt8} {s : Rs} (h : s.2 ≠ 0) : byF b s = (0,s):=by unfold byF;rw [if_pos h]
theorem cnF_err {b : List UInt8} {lo hi : Nat} {s : Rs} (h : s.2 ≠ 0) : cnF b lo hi s = (0,s):=by unfold cnF;rw [byF_err h,if_pos h]
theorem raF_err {b : List UInt8} {bits : Int} {s : Rs} (h : s.2 ≠ 0) : raF b bits s = ([],s):=by unfold raF;rw [if_pos h]
theorem prF_err {b : List UInt8} {bits : Int} {s : Rs} (h : s.2 ≠ 0) : prF b bits s = (([],[]),s):=by unfold prF;rw [raF_err h,raF_err h]
theorem bxG_err {b : List UInt8} {bits : Int} {s : Rs} (h : s.2 ≠ 0) (k : Nat) (acc : List (Txt × Txt)) : bxG b bits k acc s = (acc,s):=by
  cases k with
  | zero => rfl
  | succ k => rw [bxG,if_pos h]
theorem plG_err {b : List UInt8} {bits : Int} {s : Rs} (h : s.2 ≠ 0) (k : Nat) (acc : List Tm) : plG b bits k acc s = (acc,s):=by
  cases k with
  | zero => rfl
  | succ k => rw [plG,if_pos h]
theorem frm_err {α : Type} {ok : α → Bool} {x : α × Rs} (h : x.2.2 ≠ 0) : frm ok x = x:=by unfold frm;rw [if_neg (by omega)]
theorem frm_ok {α : Type} {ok : α → Bool} {x : α × Rs} (h : ok x.1 = true) : frm ok x = x:=by unfold frm;rw [if_neg (by rw [h];simp)]
theorem frm_no {α : Type} {ok : α → Bool} {x : α × Rs} (h : x.2.2 = 0) (h2 : ok x.1 = false) : frm ok x = (x.1,(x.2.1,2)):=by unfold frm;rw [if_pos ⟨h,h2⟩]
theorem frm_val {α : Type} (ok : α → Bool) (x : α × Rs) : (frm ok x).1 = x.1 ∧ (frm ok x).2.1 = x.2.1:=by unfold frm;split <;> exact ⟨rfl,rfl⟩
theorem bxF_err {b : List UInt8} {bits : Int} {s : Rs} (h : s.2 ≠ 0) (n : Nat) : bxF b bits n s = ([],s):=by unfold bxF;rw [bxG_err h,frm_err h]
theorem plF_err {b : List UInt8} {T bits : Int} {s : Rs} (h : s.2 ≠ 0) : plF b T bits s = ([],s):=by unfold plF;rw [if_pos h]
def RsOk (b : List UInt8) (s : Rs) : Prop:=s.1 ≤ b.length ∧ s.2 < 18
theorem byF_rs {b : List UInt8} {s : Rs} (h : RsOk b s) : RsOk b (byF b s).2 ∧ (byF b s).1 < 256:=by
  obtain ⟨h1,h2⟩:=h
  unfold byF
  split
  · exact ⟨⟨h1,h2⟩,by show 0 < 256;omega⟩
  split
  · exact ⟨⟨h1,by show 4 < 18;omega⟩,by show 0 < 256;omega⟩
  · exact ⟨⟨by show s.1 + 1 ≤ b.length;omega,by show 0 < 18;omega⟩,UInt8.toNat_lt _⟩
theorem cnF_rs {b : List UInt8} {lo hi : Nat} {s : Rs} (h : RsOk b s) : RsOk b (cnF b lo hi s).2 ∧ (cnF b lo hi s).1 < 256:=by
  have h1:=byF_rs h
  unfold cnF
  split
  · exact ⟨h1.1,by show 0 < 256;omega⟩
  split
  · exact ⟨⟨h1.1.1,by show 2 < 18;omega⟩,by show 0 < 256;omega⟩
  · exact h1
theorem qget_err {b : List UInt8} {a bits : Int} (h : (qget b a bits).2.2 ≠ 0) : (qget b a bits).1 = 0 ∧ (qget b a bits).2.1 = 0 ∧ (qget b a bits).2.2 < 18:=by
  unfold qget at h ⊢
  split
  · rename_i h1
    exact ⟨rfl,rfl,(zget_err h1).2.2⟩
  split
  · rename_i h1
    exact ⟨rfl,rfl,(zget_err h1).2.2⟩
  split
  · exact ⟨rfl,rfl,by show 2 < 18;omega⟩
  · rename_i h1 h2 h3
    rw [if_neg h1,if_neg h2,if_neg h3] at h
    exact absurd rfl h
theorem qget_ok {b : List UInt8} {a bits : Int} (h : (qget b a bits).2.2 = 0) : 0 ≤ a ∧ a.toNat + 2 ≤ (qget b a bits).2.1 ∧ (qget b a bits).2.1 ≤ b.length ∧ qb (b.length / 4 + 1) (qget b a bits).1:=by
  unfold qget at h ⊢
  split
  · rename_i h1;rw [if_pos h1] at h;exact absurd h h1
  rename_i h1
  rw [if_neg h1] at h
  split
  · rename_i h2;rw [if_pos h2] at h;exact absurd h h2
  rename_i h2
  rw [if_neg h2] at h
  split
  · rename_i h3;rw [if_pos h3] at h;cases h
  rename_i h3
  have g1:=zget_ok (b:=b) (a:=a) (bits:=bits) (by omega)
  have g2:=zget_ok (b:=b) (a:=((zget b a bits).2.1 : Nat)) (bits:=bits) (by omega)
  refine ⟨g1.1,by show a.toNat + 2 ≤ (zget b ((zget b a bits).2.1 : Nat) bits).2.1;omega,g2.2.2.1, ?_⟩
  have m:=mk_num_le (zget b a bits).1 (d:=(zget b ((zget b a bits).2.1 : Nat) bits).1.natAbs) (by omega)
  exact ⟨Nat.le_trans m.1 g1.2.2.2,Nat.le_trans m.2 g2.2.2.2⟩
theorem qget_rs (b : List UInt8) (a bits : Int) : RsOk b (qget b a bits).2 ∧ qb (b.length / 4 + 1) (qget b a bits).1:=by
  by_cases h : (qget b a bits).2.2 = 0
  · have:=qget_ok h
    exact ⟨⟨this.2.2.1,by omega⟩,this.2.2.2⟩
  · have:=qget_err h
    refine ⟨⟨by omega,this.2.2⟩, ?_⟩
    rw [this.1]
    exact ⟨by show zb 0 ≤ _;unfold zb;show nb 0 ≤ _;rw [nb,limbs_zero];simp,by show nb 1 ≤ _;exact nb_lt.2 (Nat.one_lt_pow (by omega) (by omega))⟩
theorem raF_rs {b : List UInt8} {bits : Int} {s : Rs} (h : RsOk b s) : RsOk b (raF b bits s).2:=by
  unfold raF
  split
  · exact h
  · exact (qget_rs b s.1 bits).1
theorem prF_rs {b : List UInt8} {bits : Int} {s : Rs} (h : RsOk b s) : RsOk b (prF b bits s).2:=raF_rs (raF_rs h)
theorem bxG_rs {b : List UInt8} {bits : Int} : ∀ (k : Nat) (acc : List (Txt × Txt)) (s : Rs),RsOk b s → RsOk b (bxG b bits k acc s).2 ∧ (bxG b bits k acc s).1.length ≤ acc.length + k
  | 0,acc,s,h => ⟨h,Nat.le_refl _⟩
  | k + 1,acc,s,h => by
    rw [bxG]
    split
    · exact ⟨h,by show acc.length ≤ _;omega⟩
    · have:=bxG_rs (bits:=bits) k (acc ++ [(prF b bits s).1]) _ (prF_rs (bits:=bits) h)
      rw [List.length_append,List.length_singleton] at this
      exact ⟨this.1,by omega⟩
theorem frm_rs {α : Type} {b : List UInt8} {ok : α → Bool} {x : α × Rs} (h : RsOk b x.2) : RsOk b (frm ok x).2:=by
  unfold frm
  split
  · exact ⟨h.1,by show 2 < 18;omega⟩
  · exact h
theorem bxF_rs {b : List UInt8} {bits : Int} {n : Nat} {s : Rs} (h : RsOk b s) : RsOk b (bxF b bits n s).2 ∧ (bxF b bits n s).1.length ≤ n:=by
  have:=bxG_rs (bits:=bits) n [] s h
  unfold bxF
  rw [(frm_val _ _).1]
  exact ⟨frm_rs this.1,by simpa using this.2⟩
theorem tmF_rs {b : List UInt8} {bits : Int} {s : Rs} (h : RsOk b s) : RsOk b (tmF b bits s).2:=raF_rs (byF_rs (byF_rs (byF_rs h).1).1).1
theorem byF_ok {b : List UInt8} {s : Rs} (h : (byF b s).2.2 = 0) : s.2 = 0 ∧ s.1 < b.length ∧ byF b s = ((b.getD s.1 0).toNat,(s.1 + 1,0)):=by
  unfold byF at h ⊢
  by_cases h1 : s.2 ≠ 0
  · rw [if_pos h1] at h;exact absurd h h1
  · rw [if_neg h1] at h ⊢
    by_cases h2 : b.length ≤ s.1
    · rw [if_pos h2] at h;cases h
    · rw [if_neg h2];exact ⟨by omega,by omega,rfl⟩
theorem raF_ok {b : List UInt8} {bits : Int} {s : Rs} (h : (raF b bits s).2.2 = 0) : s.2 = 0 ∧ s.1 + 2 ≤ (raF b bits s).2.1 ∧ (qget b s.1 bits).2.2 = 0:=by
  unfold raF at h ⊢
  by_cases h1 : s.2 ≠ 0
  · rw [if_pos h1] at h;exact absurd h h1
  · rw [if_neg h1] at h ⊢
    have:=qget_ok h
    exact ⟨by omega,by have:=this.2.1;simpa using this,h⟩
theorem tmF_ok {b : List UInt8} {bits : Int} {s : Rs} (h : (tmF b bits s).2.2 = 0) : s.2 = 0 ∧ s.1 + 5 ≤ (tmF b bits s).2.1:=by
  unfold tmF at h ⊢
  simp only at h ⊢
  have h4:=raF_ok h
  have h3:=byF_ok h4.1
  have h2:=byF_ok h3.1
  have h1:=byF_ok h2.1
  refine ⟨h1.1, ?_⟩
  have:=h4.2.1
  rw [h3.2.2,h2.2.2,h1.2.2] at this
  simp only at this
  rw [h3.2.2,h2.2.2,h1.2.2]
  exact this
theorem plG_rs {b : List UInt8} {bits : Int} : ∀ (k : Nat) (acc : List Tm) (s : Rs),RsOk b s → RsOk b (plG b bits k acc s).2 ∧ (plG b bits k acc s).1.length ≤ acc.length + (b.length - s.1) + 1
  | 0,acc,s,h => ⟨h,by show acc.length ≤ _;omega⟩
  | k + 1,acc,s,h => by
    rw [plG]
    split
    · exact ⟨h,by show acc.length ≤ _;omega⟩
    · have hs:=tmF_rs (bits:=bits) h
      have:=plG_rs (bits:=bits) k (acc ++ [(tmF b bits s).1]) _ hs
      rw [List.length_append,List.length_singleton] at this
      refine ⟨this.1, ?_⟩
      by_cases he : (tmF b bits s).2.2 = 0
      · have h5:=tmF_ok he
        have:=hs.1
        omega
      · rw [plG_err he]
        show (acc ++ [(tmF b bits s).1]).length ≤ _
        rw [List.length_append,List.length_singleton]
        omega
theorem plS_rs (b : List UInt8) (T : Int) (p : Nat) : RsOk b (plS b T p):=by
  unfold plS
  by_cases h : (vget b p).2.2 = 0
  · have h1:=vget_end h
    refine ⟨h1.2.2, ?_⟩
    simp only
    split <;> omega
  · have h1:=vget_err h
    refine ⟨by show (vget b p).2.1 ≤ _;omega, ?_⟩
    simp only
    split <;> omega
theorem plF_rs {b : List UInt8} {T bits : Int} {s : Rs} (h : RsOk b s) : RsOk b (plF b T bits s).2 ∧ (plF b T bits s).1.length ≤ b.length + 1:=by
  unfold plF
  split
  · exact ⟨h,by show 0 ≤ _;omega⟩
  · have:=plG_rs (bits:=bits) (vget b s.1).1 [] (plS b T s.1) (plS_rs b T s.1)
    rw [(frm_val _ _).1]
    exact ⟨frm_rs this.1,by have h2:=this.2;simp at h2;omega⟩
def shT (t : Txt) : Prop:=t.length < 9223372036854775808
theorem decQ_sh {q : Rat} (hq : qb 40000000 q) : shT (decQ q):=by
  have h1:=hq.1
  have h2:=hq.2
  have l1:=decZ_len q.num
  have l2:=dec_len q.den
  unfold shT decQ
  split
  · omega
  · rw [List.length_append,List.length_cons];omega
theorem qget_qb {b : List UInt8} {a bits : Int} (hb : b.length < 100000000) : qb 40000000 (qget b a bits).1:=(qget_rs b a bits).2.mono (by omega)
theorem raF_sh {b : List UInt8} {bits : Int} {s : Rs} (hb : b.length < 100000000) : shT (raF b bits s).1:=by
  unfold raF
  split
  · show 0 < _;omega
  · exact decQ_sh (qget_qb hb)
theorem prF_sh {b : List UInt8} {bits : Int} {s : Rs} (hb : b.length < 100000000) : shT (prF b bits s).1.1 ∧ shT (prF b bits s).1.2:=⟨raF_sh hb,raF_sh hb⟩
theorem bxG_sh {b : List UInt8} {bits : Int} (hb : b.length < 100000000) : ∀ (k : Nat) (acc : List (Txt × Txt)) (s : Rs),(∀ p ∈ acc,shT p.1 ∧ shT p.2) → ∀ p ∈ (bxG b bits k acc s).1,shT p.1 ∧ shT p.2
  | 0,acc,s,h => h
  | k + 1,acc,s,h => by
    rw [bxG]
    split
    · exact h
    · refine bxG_sh hb k _ _ fun p hp => ?_
      rcases List.mem_append.1 hp with hp | hp
      · exact h p hp
      · obtain rfl:=List.mem_singleton.1 hp
        exact prF_sh hb
theorem bxF_sh {b : List UInt8} {bits : Int} (hb : b.length < 100000000) (n : Nat) (s : Rs) : ∀ p ∈ (bxF b bits n s).1,shT p.1 ∧ shT p.2:=by
  unfold bxF
  rw [(frm_val _ _).1]
  exact bxG_sh hb n [] s fun p hp => by cases hp
theorem plG_sh {b : List UInt8} {bits : Int} (hb : b.length < 100000000) : ∀ (k : Nat) (acc : List Tm) (s : Rs),(∀ p ∈ acc,shT p.2) → ∀ p ∈ (plG b bits k acc s).1,shT p.2
  | 0,acc,s,h => h
  | k + 1,acc,s,h => by
    rw [plG]
    split
    · exact h
    · refine plG_sh hb k _ _ fun p hp => ?_
      rcases List.mem_append.1 hp with hp | hp
      · exact h p hp
      · obtain rfl:=List.mem_singleton.1 hp
        exact raF_sh hb
theorem plF_sh {b : List UInt8} {T bits : Int} (hb : b.length < 100000000) (s : Rs) : ∀ p ∈ (plF b T bits s).1,shT p.2:=by
  unfold plF
  split
  · exact fun p hp => by cases hp
  · rw [(frm_val _ _).1]
    exact plG_sh hb _ [] _ fun p hp => by cases hp
theorem lR_lmb {l : List UInt8} {N i j : Nat} (hi : i < l.length) (hj : j < N) : (if j = i / 4 then .int .u32 (((256 ^ i * (l.getD (l.length - 1 - i) 0).toNat + loB l i) / 4294967296 ^ (i / 4) % 4294967296 : Nat) : Int) else lR (lmb N (loB l i)) j) = lR (lmb N (loB l (i + 1))) j:=by
  unfold lR
  rw [lmb_at hj,loB_succ hi]
  by_cases h : j = i / 4
  · rw [if_pos h,h,lmb_at (by omega)]
  · rw [if_neg h,lmb_at hj,lmb_else (loB_lt (by omega)) (UInt8.toNat_lt _) h]
theorem lR_at {N x j : Nat} (h : j < N) : lR (lmb N x) j = .int .u32 ((x / 4294967296 ^ j % 4294967296 : Nat) : Int):=by
  unfold lR
  rw [lmb_at h]
theorem lR_z {N j : Nat} (h : j < N) {b : List UInt8} : lR (lmb N (loB b 0)) j = .int .u32 0:=by
  rw [lR_at h,loB_zero,Nat.zero_div]
  rfl
theorem LeV_nl : LeV .nils (u32s (limbs 0)):=by
  unfold u32s
  rw [limbs_zero]
  exact LeV.nils
def ndD (b : List UInt8) : D:=.tup [natD (rdV b), .int .i64 (if zhd b = true then 2 else 0)]
theorem nd_no {b : List UInt8} (h : zhd b = true) : ndD b = .tup [natD 0, .int .i64 2]:=by unfold ndD rdV;rw [if_pos h,if_pos h]
theorem nd_yes {b : List UInt8} (h : zhd b = false) : ndD b = .tup [natD (valB b), .int .i64 0]:=by unfold ndD rdV;rw [h];rfl
theorem nat_Read {b : List UInt8} (hb : b.length < 1000000000) : C E 197 [.str b] (ndD b):=by
  refine CG_intro Tryz.func197 rfl (by kernel_rfl) rfl (by kernel_rfl) (by kernel_rfl) rfl ?_
  by_cases h0 : b = []
  · subst h0
    have hz : zhd ([] : List UInt8) = false:=rfl
    rw [nd_yes hz]
    have e : ([] : List UInt8).length = 0:=rfl
    have hc:=nat_cut (l:=[]) (fun x hx => by cases hx) (by simp)
    simp (disch:=first|exact dd|fail) only [go_sem,seval,e]
    refine AL.step ?_
    simp (disch:=first|exact dd|fail) only [go_sem,seval]
    refine callC hc ?_ rfl ?_
    · simp (disch:=first|exact dd|fail) only [go_sem,seval,u32s]
      try exact LesV_rows rfl fun j hj => absurd hj (by simp)
    simp (disch:=first|exact dd|fail) only [go_sem,seval]
    try exact LeV.refl _
  have e0 : (b == []) = false:=beq_eq_false_iff_ne.2 h0
  have hpos : 0 < b.length:=List.length_pos_iff.2 h0
  have hc0:=(b.getD 0 0).toNat_lt
  by_cases h1 : (b.getD 0 0).toNat = 0
  · have hz : zhd b = true:=by unfold zhd;exact decide_eq_true ⟨hpos,h1⟩
    rw [nd_no hz]
    simp (disch:=first|exact dd|fail) only [go_sem,seval,e0,bne,h1]
    exact LeV.tup (LesV.cons (LeV.agg (LesV.cons LeV_nl (LesV.refl _))) (LesV.refl _))
  have hz : zhd b = false:=by unfold zhd;exact decide_eq_false fun h => h1 h.2
  rw [nd_yes hz]
  obtain ⟨N,hN,hNl⟩ : ∃ N : Nat,IntKind.i64.wrap (((b.length : Int) + 3).tdiv 4) = (N : Int) ∧ b.length ≤ 4 * N ∧ N < 1000000000:=by
    refine ⟨(b.length + 3) / 4, ?_,by omega,by omega⟩
    rw [Int.tdiv_eq_ediv_of_nonneg (by omega),wrap_i64 (by omega)];omega
  have hc:=nat_cut (l:=lmb N (valB b)) (lmb_lows _ _) (by rw [lmb_len];omega)
  rw [lmb_fin (by omega)] at hc
  have hlen:=lmb_len N (valB b)
  simp (disch:=first|exact dd|fail) only [go_sem,seval,e0,bne,hN]
  refine ⟨by omega,by omega,by omega, ?_⟩
  refine AL.of (fun i : Nat => i ≤ b.length) (fun i => b.length - i) (fun i => [(0, .str b),(2, .ad 0 0),(4, .sl 1 0 0 N),(20, .int .i64 b.length),(21, .int .i64 i)]) (fun i => [(1, .row false 0 false 1 N (lR (lmb N (loB b i)))),(0, .var true 1 (.agg [.nils]))]) 0 (Nat.zero_le _) ?_ ?_ ?_ ?_
  · simp (disch:=first|exact dd|fail) only [go_sem,seval]
    try exact LeV.refl _
  · simp (disch:=first|exact dd|fail) only [go_sem,seval]
    exact fun j hj => Le.of_eq (lR_z hj).symm
  · intro x _;simp (disch:=first|exact dd|fail) only [go_sem,seval]
  intro i hi
  by_cases hil : i = b.length
  · simp (disch:=first|exact dd|fail) only [go_sem,seval,hil]
    refine callC hc ?_ rfl ?_
    · simp (disch:=first|exact dd|fail) only [go_sem,seval,u32s]
      exact LesV_rows hlen.symm fun j hj => by rw [loB_all];rfl
    simp (disch:=first|exact dd|fail) only [go_sem,seval]
    try exact LeV.refl _
  · have e4 : IntKind.i64.wrap ((i : Int).tdiv 4) = ((i / 4 : Nat) : Int):=by
      rw [Int.tdiv_eq_ediv_of_nonneg (by omega),wrap_i64 (by omega)];omega
    have e5 : (i : Int).tmod 4 = ((i % 4 : Nat) : Int):=by
      rw [Int.tmod_eq_emod_of_nonneg (by omega)];omega
    have e6 : ((b.length : Int) - 1 - (i : Int)).toNat = b.length - 1 - i:=by omega
    have e7 : (((8 : Int) * ((i % 4 : Nat) : Int)).toNat) = 8 * (i % 4):=by omega
    have em : min (8 * (i % 4)) 32 = 8 * (i % 4):=by omega
    have e8:=lR_at (N:=N) (x:=loB b i) (j:=i / 4) (by omega)
    have hor:=lmb_or (loB_lt (l:=b) (i:=i) (by omega)) (UInt8.toNat_lt (b.getD (b.length - 1 - i) 0))
    have hcc:=UInt8.toNat_lt (b.getD (b.length - 1 - i) 0)
    have hlr:=fun j hj => lR_lmb (l:=b) (N:=N) (i:=i) (j:=j) (by omega) hj
    generalize hq : (b.getD (b.length - 1 - i) 0).toNat = c at *
    simp (disch:=first|exact dd|fail) only [go_sem,seval,e4,e5,e6,hq,e7,em,e8,hor]
    refine ⟨i + 1,by show i + 1 ≤ b.length;omega,by show b.length - (i + 1) < b.length - i;omega, ?_, ?_⟩
    · simp (disch:=first|exact dd|fail) only [go_sem,seval]
      try exact LeV.refl _
    · simp (disch:=first|exact dd|fail) only [go_sem,seval]
      exact fun j hj => Le.of_eq (hlr j hj)
def zgD (x : Int × Nat × Nat) : D:=.tup [zD x.1, .int .i64 x.2.1, .int .i64 x.2.2]
theorem LeV_zg0 (n m : Int) : LeV (.tup [.agg [.nils, .bool false], .int .i64 n, .int .i64 m]) (.tup [zD 0, .int .i64 n, .int .i64 m]):=
  LeV.tup (LesV.cons (LeV.agg (LesV.cons LeV_nl (LesV.refl _))) (LesV.refl _))
theorem vint_GetInt {b : List UInt8} {a bits : Int} (ha : -9223372036854775808 ≤ a ∧ a ≤ 9223372036854775807) (hbits : -9223372036854775808 ≤ bits ∧ bits ≤ 9223372036854775807) (hb : b.length < 1000000000) : C E 181 [.str b, .int .i64 a, .int .i64 bits] (zgD (zget b a bits)):=by
  refine CG_intro Tryz.func181 rfl (by kernel_rfl) rfl (by kernel_rfl) (by kernel_rfl) rfl ?_
  have hG:=vint_Get b a ha (by omega)
  have hlt:=vget_lt b a
  have her:=vget_err (b:=b) (a:=a)
  have hen:=vget_end (b:=b) (a:=a)
  have hr : zget b a bits = zget b a bits:=rfl
  conv at hr => rhs;unfold zget
  obtain ⟨B,hB,hBn,hBl⟩ : ∃ B : Nat,max bits 0 = (B : Int) ∧ (max bits 0).toNat = B ∧ B ≤ 9223372036854775807:=⟨(max bits 0).toNat,by omega,rfl,by omega⟩
  rw [hBn] at hr
  generalize zget b a bits = res at *
  generalize vget b a = x at *
  obtain ⟨v,p,c⟩:=x
  simp only at hlt her hen hr
  unfold vgD at hG
  simp (disch:=first|exact dd|fail) only [go_sem,seval,hB]
  refine cA hG ?_
  have eB : IntKind.i64.wrap ((B : Int).tdiv 8) = ((B / 8 : Nat) : Int):=by
    rw [Int.tdiv_eq_ediv_of_nonneg (by omega),wrap_i64 (by omega)];omega
  have ev2 : IntKind.u64.wrap ((v : Int).tdiv 2) = ((v / 2 : Nat) : Int):=by
    rw [Int.tdiv_eq_ediv_of_nonneg (by omega),wrap_u64 (by omega)];omega
  by_cases h1 : c = 0
  case neg =>
    rw [if_pos h1] at hr
    subst hr
    have:=her h1
    unfold zgD
    simp (disch:=first|exact dd|fail) only [go_sem,seval,ev2]
    exact LeV_zg0 _ _
  rw [if_neg (by omega)] at hr
  have hen:=hen h1
  clear her
  by_cases h2 : B / 8 + 1 < v / 2
  case pos =>
    rw [if_pos h2] at hr
    subst hr
    unfold zgD
    simp (disch:=first|exact dd|fail) only [go_sem,seval,ev2,eB]
    exact LeV_zg0 _ _
  rw [if_neg h2] at hr
  by_cases h3 : b.length - p < v / 2
  case pos =>
    rw [if_pos h3] at hr
    subst hr
    unfold zgD
    simp (disch:=first|exact dd|fail) only [go_sem,seval,ev2,eB]
    exact LeV_zg0 _ _
  rw [if_neg h3] at hr
  have es : ((p : Int) + ((v / 2 : Nat) : Int)).toNat = p + v / 2:=by omega
  have hSl : ((b.take (p + v / 2)).drop p).length < 1000000000:=by rw [List.length_drop,List.length_take];omega
  have hR:=nat_Read hSl
  generalize hSe : (b.take (p + v / 2)).drop p = S at *
  simp (disch:=first|exact dd|fail) only [go_sem,seval,ev2,eB,es,hSe]
  refine cA hR ?_
  have hnb:=valB_nb S
  have hbt:=nbit_nb (valB S)
  by_cases h4 : zhd S = true
  case pos =>
    rw [if_pos (.inl h4)] at hr
    subst hr
    rw [nd_no h4]
    unfold zgD
    simp (disch:=first|exact dd|fail) only [go_sem,seval]
    exact LeV_zg0 _ _
  have h4 : zhd S = false:=by simpa using h4
  rw [nd_yes h4]
  by_cases h5 : v = 1
  case pos =>
    rw [if_pos (.inr h5)] at hr
    subst hr
    unfold zgD
    simp (disch:=first|exact dd|fail) only [go_sem,seval]
    exact LeV_zg0 _ _
  rw [if_neg (by rw [h4];simp [h5])] at hr
  have hBt:=nat_Bits (n:=valB S) (by omega)
  simp (disch:=first|exact dd|fail) only [go_sem,seval]
  refine cA hBt ?_
  by_cases h6 : B < nbit (valB S)
  case pos =>
    rw [if_pos h6] at hr
    subst hr
    unfold zgD
    simp (disch:=first|exact dd|fail) only [go_sem,seval]
    exact LeV_zg0 _ _
  rw [if_neg h6] at hr
  subst hr
  have em : (v : Int).tmod 2 = ((v % 2 : Nat) : Int):=by
    rw [Int.tmod_eq_emod_of_nonneg (by omega)];omega
  have hF:=whole_From (decide (v % 2 = 1)) (n:=valB S) (by omega)
  unfold zgD
  by_cases h7 : v % 2 = 1
  · rw [decide_eq_true h7] at hF ⊢
    simp (disch:=first|exact dd|fail) only [go_sem,seval,em]
    refine cA hF ?_
    simp (disch:=first|exact dd|fail) only [go_sem,seval]
    try exact LeV.refl _
  · rw [decide_eq_false h7] at hF ⊢
    simp (disch:=first|exact dd|fail) only [go_sem,seval,em]
    refine cA hF ?_
    simp (disch:=first|exact dd|fail) only [go_sem,seval]
    try exact LeV.refl _
theorem rat_New {n d : Int} (hn : zb n < 500000000) (hd : zb d < 500000000) (h0 : 0 < d) : C E 137 [zD n,zD d] (.tup [qD (mkRat n d.natAbs), .bool true]):=by
  refine CG_intro Tryz.func137 rfl (by kernel_rfl) rfl (by kernel_rfl) (by kernel_rfl) rfl ?_
  unfold zb at hn hd
  have hS:=whole_Sign (z:=d) (by omega)
  have hA:=whole_Abs d
  have hL:=rat_least (n:=n) (d:=d.natAbs) hn hd
  rw [dOf_pos (by omega)] at hL
  have hs : sgI d 0 = 1:=sgI_gt h0
  simp (disch:=first|exact dd|fail) only [go_sem,seval]
  refine cA hS ?_
  simp (disch:=first|exact dd|fail) only [go_sem,seval,hs]
  refine cA hS ?_
  simp (disch:=first|exact dd|fail) only [go_sem,seval,hs]
  refine cL hA ?_
  simp (disch:=first|exact dd|fail) only [go_sem,seval]
  refine cL hL ?_
  simp (disch:=first|exact dd|fail) only [go_sem,seval]
  try exact LeV.refl _
theorem rat_New0 {n : Int} (hn : zb n < 500000000) : C E 137 [zD n,zD 0] (.tup [qD 0, .bool false]):=by
  refine CG_intro Tryz.func137 rfl (by kernel_rfl) rfl (by kernel_rfl) (by kernel_rfl) rfl ?_
  have hS:=whole_Sign (z:=0) (by show nb 0 < _;rw [nb,limbs_zero];simp)
  have hs : sgI 0 0 = 0:=sgI_eq 0
  simp (disch:=first|exact dd|fail) only [go_sem,seval]
  refine cA hS ?_
  simp (disch:=first|exact dd|fail) only [go_sem,seval,hs]
  exact LeV.tup (LesV.cons LeV_q0' (LesV.refl _))
theorem rat_NewN {n d : Int} (hn : zb n < 500000000) (hd : zb d < 500000000) (h0 : d < 0) : C E 137 [zD n,zD d] (.tup [qD (mkRat (-n) d.natAbs), .bool true]):=by
  refine CG_intro Tryz.func137 rfl (by kernel_rfl) rfl (by kernel_rfl) (by kernel_rfl) rfl ?_
  have hN:=whole_Neg (z:=n) (by omega)
  unfold zb at hn hd
  have hS:=whole_Sign (z:=d) (by omega)
  have hA:=whole_Abs d
  have hL:=rat_least (n:=-n) (d:=d.natAbs) (by unfold zb;rw [Int.natAbs_neg];exact hn) hd
  rw [dOf_pos (by omega)] at hL
  have hs : sgI d 0 = -1:=sgI_lt h0
  simp (disch:=first|exact dd|fail) only [go_sem,seval]
  refine cA hS ?_
  simp (disch:=first|exact dd|fail) only [go_sem,seval,hs]
  refine cA hS ?_
  simp (disch:=first|exact dd|fail) only [go_sem,seval,hs]
  refine cA hN ?_
  simp (disch:=first|exact dd|fail) only [go_sem,seval]
  refine cL hA ?_
  simp (disch:=first|exact dd|fail) only [go_sem,seval]
  refine cL hL ?_
  simp (disch:=first|exact dd|fail) only [go_sem,seval]
  try exact LeV.refl _
def qgD (x : Rat × Nat × Nat) : D:=.tup [qD x.1, .int .i64 x.2.1, .int .i64 x.2.2]
theorem LeV_qg0 (n m : Int) : LeV (.tup [.agg [.nils, .bool false, .nils], .int .i64 n, .int .i64 m]) (.tup [qD 0, .int .i64 n, .int .i64 m]):=
  LeV.tup (LesV.cons (LeV.agg (LesV.cons LeV_nl (LesV.cons (LeV.refl _) (LesV.cons LeV_nl LesV.nil)))) (LesV.refl _))
theorem mk_den_ne {n : Int} {d : Nat} (hd : d ≠ 0) : ((mkRat n d).den = d ↔ d.gcd n.natAbs = 1):=by
  have h:=(mk_parts n d hd).2.2
  rw [h]
  have hg : 0 < d.gcd n.natAbs:=Nat.gcd_pos_of_pos_left _ (by omega)
  have hdv : d.gcd n.natAbs ∣ d:=Nat.gcd_dvd_left _ _
  obtain ⟨k,hk⟩:=hdv
  generalize d.gcd n.natAbs = g at *
  subst hk
  rw [Nat.mul_div_cancel_left _ hg]
  constructor
  · intro h
    rcases Nat.eq_zero_or_pos k with hk | hk
    · subst hk;simp at hd
    · have : 1 * k = g * k:=by omega
      exact (Nat.eq_of_mul_eq_mul_right hk this).symm
  · intro h;subst h;omega
theorem vint_GetRat {b : List UInt8} {a bits : Int} (ha : -9223372036854775808 ≤ a ∧ a ≤ 9223372036854775807) (hbits : -9223372036854775808 ≤ bits ∧ bits ≤ 9223372036854775807) (hb : b.length < 100000000) : C E 156 [.str b, .int .i64 a, .int .i64 bits] (qgD (qget b a bits)):=by
  refine CG_intro Tryz.func156 rfl (by kernel_rfl) rfl (by kernel_rfl) (by kernel_rfl) rfl ?_
  have hG:=vint_GetInt (b:=b) ha hbits (by omega)
  have hok:=zget_ok (b:=b) (a:=a) (bits:=bits)
  have her:=zget_err (b:=b) (a:=a) (bits:=bits)
  have hr : qget b a bits = qget b a bits:=rfl
  conv at hr => rhs;unfold qget
  generalize qget b a bits = res at *
  generalize zget b a bits = x at *
  obtain ⟨n,p,c⟩:=x
  simp only at hok her hr
  unfold zgD at hG
  simp (disch:=first|exact dd|fail) only [go_sem,seval]
  refine cA hG ?_
  by_cases h1 : c = 0
  case neg =>
    rw [if_pos h1] at hr
    subst hr
    have:=her h1
    unfold qgD
    simp (disch:=first|exact dd|fail) only [go_sem,seval]
    exact LeV_qg0 _ _
  rw [if_neg (by omega)] at hr
  have hok:=hok h1
  clear her
  have hG2:=vint_GetInt (b:=b) (a:=(p : Int)) (by omega) hbits (by omega)
  have hok2:=zget_ok (b:=b) (a:=(p : Int)) (bits:=bits)
  have her2:=zget_err (b:=b) (a:=(p : Int)) (bits:=bits)
  generalize zget b p bits = x at *
  obtain ⟨d,p2,c2⟩:=x
  simp only at hok2 her2 hr
  unfold zgD at hG2
  simp (disch:=first|exact dd|fail) only [go_sem,seval]
  refine cA hG2 ?_
  by_cases h2 : c2 = 0
  case neg =>
    rw [if_pos h2] at hr
    subst hr
    have:=her2 h2
    unfold qgD
    simp (disch:=first|exact dd|fail) only [go_sem,seval]
    exact LeV_qg0 _ _
  rw [if_neg (by omega)] at hr
  have hok2:=hok2 h2
  clear her2
  have zn : zb n < 100000000:=by omega
  have zd : zb d < 100000000:=by omega
  rcases Int.lt_trichotomy d 0 with h3 | h3 | h3
  · rw [if_pos (.inl (by omega))] at hr
    subst hr
    have hN:=rat_NewN (n:=n) (d:=d) (by omega) (by omega) h3
    have hle:=mk_num_le (-n) (d:=d.natAbs) (by omega)
    have hq : qs (mkRat (-n) d.natAbs):=⟨Nat.lt_of_le_of_lt hle.1 (by unfold zb at zn ⊢;rw [Int.natAbs_neg];omega),Nat.lt_of_le_of_lt hle.2 zd⟩
    have hD:=rat_Den hq
    have hC:=whole_Cmp (a:=((mkRat (-n) d.natAbs).den : Int)) (b:=d) (by rw [Int.natAbs_natCast];have:=hq.2;omega) (by unfold zb at zd;omega)
    have hs : sgI ((mkRat (-n) d.natAbs).den : Int) d = 1:=sgI_gt (by omega)
    unfold qgD
    generalize mkRat (-n) d.natAbs = q at *
    simp (disch:=first|exact dd|fail) only [go_sem,seval]
    refine cA hN ?_
    simp (disch:=first|exact dd|fail) only [go_sem,seval]
    refine cL hD ?_
    simp (disch:=first|exact dd|fail) only [go_sem,seval]
    refine cL hC ?_
    simp (disch:=first|exact dd|fail) only [go_sem,seval,hs]
    exact LeV_qg0 _ _
  · rw [if_pos (.inl (by omega))] at hr
    subst hr
    subst h3
    have hN:=rat_New0 (n:=n) (by omega)
    unfold qgD
    simp (disch:=first|exact dd|fail) only [go_sem,seval]
    refine cA hN ?_
    simp (disch:=first|exact dd|fail) only [go_sem,seval]
    exact LeV_qg0 _ _
  · have hN:=rat_New (n:=n) (d:=d) (by omega) (by omega) h3
    have hle:=mk_num_le n (d:=d.natAbs) (by omega)
    have hq : qs (mkRat n d.natAbs):=⟨Nat.lt_of_le_of_lt hle.1 (by omega),Nat.lt_of_le_of_lt hle.2 zd⟩
    have hD:=rat_Den hq
    have hC:=whole_Cmp (a:=((mkRat n d.natAbs).den : Int)) (b:=d) (by rw [Int.natAbs_natCast];have:=hq.2;omega) (by unfold zb at zd;omega)
    have hg:=mk_den_ne (n:=n) (d:=d.natAbs) (by omega)
    by_cases h4 : d.natAbs.gcd n.natAbs = 1
    · rw [if_neg (by omega)] at hr
      subst hr
      have hs : sgI ((mkRat n d.natAbs).den : Int) d = 0:=by
        rw [show ((mkRat n d.natAbs).den : Int) = d by rw [hg.2 h4];omega]
        exact sgI_eq d
      unfold qgD
      generalize mkRat n d.natAbs = q at *
      simp (disch:=first|exact dd|fail) only [go_sem,seval]
      refine cA hN ?_
      simp (disch:=first|exact dd|fail) only [go_sem,seval]
      refine cL hD ?_
      simp (disch:=first|exact dd|fail) only [go_sem,seval]
      refine cL hC ?_
      simp (disch:=first|exact dd|fail) only [go_sem,seval,hs]
      try exact LeV.refl _
    · rw [if_pos (.inr h4)] at hr
      subst hr
      have hs : (sgI ((mkRat n d.natAbs).den : Int) d == 0) = false:=by
        rw [beq_eq_false_iff_ne]
        have:=sgI_cases ((mkRat n d.natAbs).den : Int) d
        have h5 : ¬ (mkRat n d.natAbs).den = d.natAbs:=fun e => h4 (hg.1 e)
        omega
      unfold qgD
      generalize mkRat n d.natAbs = q at *
      simp (disch:=first|exact dd|fail) only [go_sem,seval]
      refine cA hN ?_
      simp (disch:=first|exact dd|fail) only [go_sem,seval]
      refine cL hD ?_
      simp (disch:=first|exact dd|fail) only [go_sem,seval]
      refine cL hC ?_
      simp (disch:=first|exact dd|fail) only [go_sem,seval,hs,bne]
      exact LeV_qg0 _ _
end Go.Proofs.YtakaojkfipnfcaaGreatDoor.Lv
