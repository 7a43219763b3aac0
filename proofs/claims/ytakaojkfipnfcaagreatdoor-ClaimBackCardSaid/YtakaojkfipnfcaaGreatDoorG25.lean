/- claim.Open, claim.Right. claim.Bytes. The document's Open: times. -/
import Derived.Test.YtakaojkfipnfcaaGreatDoorG24
import Derived.Test.YtakaojkfipnfcaaGreatDoorG13
set_option linter.unusedVariables false
set_option linter.unusedSimpArgs false
set_option maxRecDepth 100000
set_option maxHeartbeats 4000000
namespace Go.Proofs.YtakaojkfipnfcaaGreatDoor.Lv
open Go Go.RowKit
def rOK (c : Cl) : Bool:=if c.k = 2 then decide ((spR c.R.1 c.R.2).2 = 0) else (c.R.1 == [] && c.R.2 == [])
def tOK (n : Nat) (c : Cl) : Bool:=if c.k = 5 then okTE n c else decide (c.T.length = 0) && decide (c.E.length = 0)
def opnB (c : Cl) : Bool:=decide ((boxR c.B).2 = 0) && decide (1 ≤ c.k ∧ c.k ≤ 5) && okFs (boxR c.B).1.length c.F && manyB c.k (boxR c.B).1.length c.F.length && rOK c && tOK (boxR c.B).1.length c
structure Cl.ok (c : Cl) : Prop where
  k : -9223372036854775808 ≤ c.k ∧ c.k ≤ 9223372036854775807
  F : c.F.length < 1000000 ∧ ∀ t ∈ c.F,t.length ≤ 100000 ∧ ∀ p ∈ t,shT p.2
  B : c.B.length < 1000000 ∧ ∀ p ∈ c.B,shT p.1 ∧ shT p.2
  R : shT c.R.1 ∧ shT c.R.2
  T : c.T.length < 1000000 ∧ ∀ t ∈ c.T,shT t
  E : c.E.length < 1000000 ∧ ∀ e ∈ c.E,e.length < 1000000 ∧ ∀ p ∈ e,shT p.1 ∧ shT p.2
def clR (c : Cl) : Rat × Rat:=if c.k = 2 then (spR c.R.1 c.R.2).1 else (0,0)
def fk0 : D:=.agg [.int .i64 0, .nils, .nils, .nils, .bool false, .nils, .nils, .bool false, .nils, .nils, .nils]
def fkV (k : Int) (X : List (List Pt)) (b : List (Rat × Rat)) (p : Rat × Rat) (T : List Rat) (E : List (List (Rat × Rat))) : D:=
  .agg [.int .i64 k,pfD X,bxD b,u32s (limbs p.1.num.natAbs), .bool (decide (p.1.num < 0)),u32s (limbs (qden p.1)),u32s (limbs p.2.num.natAbs), .bool (decide (p.2.num < 0)),u32s (limbs (qden p.2)),qlD T,bfD E]
def fkD (c : Cl) : D:=fkV c.k (c.F.map pV) (boxR c.B).1 (clR c) (tV c.T) (eV c.E)
def opD (c : Cl) : D:=.tup [if opnB c = true then fkD c else fk0, .bool (opnB c)]
theorem op_no {c : Cl} (h : opnB c = false) : opD c = .tup [fk0, .bool false]:=by unfold opD;rw [h];rfl
theorem op_yes {c : Cl} (h : opnB c = true) : opD c = .tup [fkD c, .bool true]:=by unfold opD;rw [h];rfl
theorem claim_Open_box {c : Cl} (hc : c.ok) (h : (boxR c.B).2 ≠ 0) : C E 18 [clD c] (.tup [fk0, .bool false]):=by
  refine CG_intro Tryz.func18 rfl (by kernel_rfl) rfl (by kernel_rfl) (by kernel_rfl) rfl ?_
  have hP:=box_Parse (l:=c.B) (by have:=hc.B.1;omega) hc.B.2
  have hS:=span_Parse c.R.1 c.R.2 hc.R.1 hc.R.2
  have hk:=hc.k
  simp only [boxD,if_neg h] at hP
  simp (disch:=first|exact dd|fail) only [go_sem,seval,clD]
  refine cA hP ?_
  by_cases k2 : c.k = 2
  · simp (disch:=first|exact dd|fail) only [go_sem,seval,h]
    refine cA hS ?_
    simp (disch:=first|exact dd|fail) only [go_sem,seval]
    exact LeV.refl _
  · by_cases k5 : c.k = 5
    · simp (disch:=first|exact dd|fail) only [go_sem,seval,h]
      exact LeV.refl _
    · simp (disch:=first|exact dd|fail) only [go_sem,seval,h]
      exact LeV.refl _
theorem claim_Open_kind {c : Cl} (hc : c.ok) (h : (boxR c.B).2 = 0) (h2 : c.k < 1 ∨ 5 < c.k) : C E 18 [clD c] (.tup [fk0, .bool false]):=by
  refine CG_intro Tryz.func18 rfl (by kernel_rfl) rfl (by kernel_rfl) (by kernel_rfl) rfl ?_
  have hP:=box_Parse (l:=c.B) (by have:=hc.B.1;omega) hc.B.2
  have hk:=hc.k
  simp only [boxD,if_pos h] at hP
  simp (disch:=first|exact dd|fail) only [go_sem,seval,clD]
  refine cA hP ?_
  rcases h2 with h2 | h2
  · simp (disch:=first|exact dd|fail) only [go_sem,seval,h]
    exact LeV.refl _
  · simp (disch:=first|exact dd|fail) only [go_sem,seval,h]
    exact LeV.refl _
theorem claim_Open_polys {c : Cl} (hc : c.ok) (h : (boxR c.B).2 = 0) (h1 : 1 ≤ c.k) (h2 : c.k ≤ 5) (h3 : okFs (boxR c.B).1.length c.F = false) : C E 18 [clD c] (.tup [fk0, .bool false]):=by
  refine CG_intro Tryz.func18 rfl (by kernel_rfl) rfl (by kernel_rfl) (by kernel_rfl) rfl ?_
  have hP:=box_Parse (l:=c.B) (by have:=hc.B.1;omega) hc.B.2
  have hS:=span_Parse c.R.1 c.R.2 hc.R.1 hc.R.2
  have hF:=facts_polys_no (k:=c.k) (b:=(boxR c.B).1) (l:=c.F) (box_len _) hc.F.1 hc.F.2 h3
  simp only [boxD,if_pos h] at hP
  simp (disch:=first|exact dd|fail) only [go_sem,seval,clD]
  refine cA hP ?_
  simp (disch:=first|exact dd|fail) only [go_sem,seval,h]
  refine callG [2] hF rfl rfl (LesV.refl _) rfl ?_
  by_cases k2 : c.k = 2
  · simp (disch:=first|exact dd|fail) only [go_sem,seval,fkB]
    refine cA hS ?_
    simp (disch:=first|exact dd|fail) only [go_sem,seval]
    exact LeV.refl _
  · by_cases k5 : c.k = 5
    · simp (disch:=first|exact dd|fail) only [go_sem,seval,fkB]
      exact LeV.refl _
    · simp (disch:=first|exact dd|fail) only [go_sem,seval,fkB]
      exact LeV.refl _
theorem claim_Open_many {c : Cl} (hc : c.ok) (h : (boxR c.B).2 = 0) (h1 : 1 ≤ c.k) (h2 : c.k ≤ 5) (h3 : okFs (boxR c.B).1.length c.F = true) (h4 : manyB c.k (boxR c.B).1.length c.F.length = false) : C E 18 [clD c] (.tup [fk0, .bool false]):=by
  refine CG_intro Tryz.func18 rfl (by kernel_rfl) rfl (by kernel_rfl) (by kernel_rfl) rfl ?_
  have hP:=box_Parse (l:=c.B) (by have:=hc.B.1;omega) hc.B.2
  have hS:=span_Parse c.R.1 c.R.2 hc.R.1 hc.R.2
  have hF:=facts_polys (k:=c.k) (b:=(boxR c.B).1) (l:=c.F) (box_len _) hc.F.1 hc.F.2 h3
  rw [h4] at hF
  simp only [boxD,if_pos h] at hP
  simp (disch:=first|exact dd|fail) only [go_sem,seval,clD]
  refine cA hP ?_
  simp (disch:=first|exact dd|fail) only [go_sem,seval,h]
  refine callG [2] hF rfl rfl (LesV.refl _) rfl ?_
  by_cases k2 : c.k = 2
  · simp (disch:=first|exact dd|fail) only [go_sem,seval,fkB]
    refine cA hS ?_
    simp (disch:=first|exact dd|fail) only [go_sem,seval]
    exact LeV.refl _
  · by_cases k5 : c.k = 5
    · simp (disch:=first|exact dd|fail) only [go_sem,seval,fkB]
      exact LeV.refl _
    · simp (disch:=first|exact dd|fail) only [go_sem,seval,fkB]
      exact LeV.refl _
theorem LeV_pf {F : List (List Tm)} {n : Nat} (hn : n = F.length) : LeV (.ro true 1 n fun i => pfR (F.map pV) i) (pfD (F.map pV)):=by
  refine LeV.ro (by rw [List.length_map];exact hn) fun j hj => Le.refl _
theorem LeV_fkd {k : Int} {F : List (List Tm)} {b : List (Rat × Rat)} {p : Rat × Rat} {T : List Rat} {E : List (List (Rat × Rat))} {D0 D1 : D} (hT : LeV D0 (qlD T)) (hE : LeV D1 (bfD E)) :
    LeV (.agg [.int .i64 k, .ro true 1 F.length fun i => pfR (F.map pV) i,bxD b,u32s (limbs p.1.num.natAbs), .bool (decide (p.1.num < 0)),u32s (limbs (qden p.1)),u32s (limbs p.2.num.natAbs), .bool (decide (p.2.num < 0)),u32s (limbs (qden p.2)),D0,D1]) (fkV k (F.map pV) b p T E):=
  LeV.agg (LesV.cons (LeV.refl _) (LesV.cons (LeV_pf rfl) (LesV.cons (LeV.refl _) (LesV.cons (LeV.refl _) (LesV.cons (LeV.refl _) (LesV.cons (LeV.refl _) (LesV.cons (LeV.refl _) (LesV.cons (LeV.refl _) (LesV.cons (LeV.refl _) (LesV.cons hT (LesV.cons hE LesV.nil)))))))))))
theorem LeV_fkz {k : Int} {F : List (List Tm)} {b : List (Rat × Rat)} {T : List Rat} {E : List (List (Rat × Rat))} {D0 D1 : D} (hT : LeV D0 (qlD T)) (hE : LeV D1 (bfD E)) :
    LeV (.agg [.int .i64 k, .ro true 1 F.length fun i => pfR (F.map pV) i,bxD b, .nils, .bool false, .nils, .nils, .bool false, .nils,D0,D1]) (fkV k (F.map pV) b (0,0) T E):=
  LeV.agg (LesV.cons (LeV.refl _) (LesV.cons (LeV_pf rfl) (LesV.cons (LeV.refl _) (LesV.cons LeV_nl (LesV.cons (LeV.refl _) (LesV.cons LeV_nl (LesV.cons LeV_nl (LesV.cons (LeV.refl _) (LesV.cons LeV_nl (LesV.cons hT (LesV.cons hE LesV.nil)))))))))))
theorem LeV_ql0 {T : List Txt} (h : T.length = 0) : LeV .nils (qlD (tV T)):=by
  obtain rfl:=List.eq_nil_of_length_eq_zero h
  exact LeV.nils
theorem LeV_bf0 {E : List (List (Txt × Txt))} (h : E.length = 0) : LeV .nils (bfD (eV E)):=by
  obtain rfl:=List.eq_nil_of_length_eq_zero h
  exact LeV.nils
theorem claim_Open_rest {c : Cl} (hc : c.ok) (h : (boxR c.B).2 = 0) (h1 : 1 ≤ c.k) (h2 : c.k ≤ 5) (h3 : okFs (boxR c.B).1.length c.F = true) (h4 : manyB c.k (boxR c.B).1.length c.F.length = true) (hr : opnB c = (rOK c && tOK (boxR c.B).1.length c)) : C E 18 [clD c] (opD c):=by
  refine CG_intro Tryz.func18 rfl (by kernel_rfl) rfl (by kernel_rfl) (by kernel_rfl) rfl ?_
  have hP:=box_Parse (l:=c.B) (by have:=hc.B.1;omega) hc.B.2
  have hS:=span_Parse c.R.1 c.R.2 hc.R.1 hc.R.2
  have hF:=facts_polys (k:=c.k) (b:=(boxR c.B).1) (l:=c.F) (box_len _) hc.F.1 hc.F.2 h3
  rw [h4] at hF
  simp only [boxD,if_pos h] at hP
  simp (disch:=first|exact dd|fail) only [go_sem,seval,clD]
  refine cA hP ?_
  simp (disch:=first|exact dd|fail) only [go_sem,seval,h]
  refine callG [2] hF rfl rfl (LesV.refl _) rfl ?_
  by_cases k2 : c.k = 2
  · unfold rOK tOK at hr
    rw [if_pos k2,if_neg (by omega)] at hr
    simp (disch:=first|exact dd|fail) only [go_sem,seval,fkB]
    refine cA hS ?_
    by_cases q1 : (spR c.R.1 c.R.2).2 = 0
    case neg =>
      rw [op_no (by rw [hr];simp [q1])]
      simp (disch:=first|exact dd|fail) only [go_sem,seval,tlD,esD,q1]
      exact LeV.refl _
    by_cases q2 : c.T.length = 0
    case neg =>
      rw [op_no (by rw [hr];simp [q2])]
      simp (disch:=first|exact dd|fail) only [go_sem,seval,tlD,esD,q1]
      exact LeV.refl _
    by_cases q3 : c.E.length = 0
    case neg =>
      rw [op_no (by rw [hr];simp [q3])]
      simp (disch:=first|exact dd|fail) only [go_sem,seval,tlD,esD,q1]
      exact LeV.refl _
    rw [op_yes (by rw [hr];simp [q1,q2,q3])]
    simp (disch:=first|exact dd|fail) only [go_sem,seval,tlD,esD,q1]
    unfold fkD clR
    rw [if_pos k2]
    exact LeV.tup (LesV.cons (LeV_fkd (LeV_ql0 q2) (LeV_bf0 q3)) (LesV.refl _))
  by_cases k5 : c.k = 5
  · unfold rOK tOK at hr
    rw [if_neg k2,if_pos k5] at hr
    cases q1 : (c.R.1 == [] && c.R.2 == []) with
    | false =>
      rw [op_no (by rw [hr,q1];rfl)]
      simp (disch:=first|exact dd|fail) only [go_sem,seval,fkB,q1]
      exact LeV.refl _
    | true =>
      cases q2 : okTE (boxR c.B).1.length c with
      | false =>
        have hX:=times_core (k:=c.k) (X:=c.F.map pV) (b:=(boxR c.B).1) (c:=c) (box_len _) hc.T.1 hc.E.1 hc.T.2 hc.E.2 (.inr ⟨q2,rfl,rfl⟩)
        rw [op_no (by rw [hr,q1,q2];rfl)]
        simp (disch:=first|exact dd|fail) only [go_sem,seval,fkB,q1]
        refine callG [2] hX rfl rfl ?_ ?_ ?_
        · simp (disch:=first|exact dd|fail) only [go_sem,seval,clD]
          try exact LesV.refl _
        · simp (disch:=first|exact dd|fail) only [go_sem,seval]
          unfold fkX pfD
          rw [List.length_map]
        simp (disch:=first|exact dd|fail) only [go_sem,seval,fkX]
        try exact LeV.refl _
      | true =>
        have hX:=times_core (k:=c.k) (X:=c.F.map pV) (b:=(boxR c.B).1) (c:=c) (box_len _) hc.T.1 hc.E.1 hc.T.2 hc.E.2 (.inl ⟨q2,rfl,rfl⟩)
        have hel : c.E.length = c.T.length:=by unfold okTE at q2;simp at q2;exact q2.1.1.2
        rw [op_yes (by rw [hr,q1,q2];rfl)]
        simp (disch:=first|exact dd|fail) only [go_sem,seval,fkB,q1]
        refine callG [2] hX rfl rfl ?_ ?_ ?_
        · simp (disch:=first|exact dd|fail) only [go_sem,seval,clD]
          try exact LesV.refl _
        · simp (disch:=first|exact dd|fail) only [go_sem,seval]
          unfold fkX pfD
          rw [List.length_map]
        simp (disch:=first|exact dd|fail) only [go_sem,seval,fkX]
        unfold fkD clR
        rw [if_neg k2]
        refine LeV.tup (LesV.cons ?_ (LesV.refl _))
        have hpl : pfD (c.F.map pV) = .ro true 1 c.F.length fun i => pfR (c.F.map pV) i:=by unfold pfD;rw [List.length_map]
        first | rw [hpl] | skip
        refine LeV_fkz (LeV.ro (by unfold tV;rw [List.length_map]) fun j hj => Le.refl _) (LeV.ro (by unfold eV;rw [List.length_map];exact hel.symm) fun j hj => Le.refl _)
  · unfold rOK tOK at hr
    rw [if_neg k2,if_neg k5] at hr
    cases q1 : (c.R.1 == [] && c.R.2 == []) with
    | false =>
      rw [op_no (by rw [hr,q1];rfl)]
      simp (disch:=first|exact dd|fail) only [go_sem,seval,fkB,tlD,esD,q1]
      exact LeV.refl _
    | true =>
      by_cases q2 : c.T.length = 0
      case neg =>
        rw [op_no (by rw [hr];simp [q2])]
        simp (disch:=first|exact dd|fail) only [go_sem,seval,fkB,tlD,esD,q1]
        exact LeV.refl _
      by_cases q3 : c.E.length = 0
      case neg =>
        rw [op_no (by rw [hr];simp [q3])]
        simp (disch:=first|exact dd|fail) only [go_sem,seval,fkB,tlD,esD,q1]
        exact LeV.refl _
      rw [op_yes (by rw [hr,q1];simp [q2,q3])]
      simp (disch:=first|exact dd|fail) only [go_sem,seval,fkB,tlD,esD,q1]
      unfold fkD clR
      rw [if_neg k2]
      exact LeV.tup (LesV.cons (LeV_fkz (LeV_ql0 q2) (LeV_bf0 q3)) (LesV.refl _))
theorem claim_Open {c : Cl} (hc : c.ok) : C E 18 [clD c] (opD c):=by
  by_cases h1 : (boxR c.B).2 = 0
  case neg =>
    rw [op_no (by unfold opnB;simp [h1])]
    exact claim_Open_box hc h1
  by_cases h2 : 1 ≤ c.k ∧ c.k ≤ 5
  case neg =>
    rw [op_no (by unfold opnB;rw [decide_eq_false h2];simp)]
    exact claim_Open_kind hc h1 (by omega)
  cases h3 : okFs (boxR c.B).1.length c.F with
  | false =>
    rw [op_no (by unfold opnB;rw [h3];simp)]
    exact claim_Open_polys hc h1 h2.1 h2.2 h3
  | true =>
    cases h4 : manyB c.k (boxR c.B).1.length c.F.length with
    | false =>
      rw [op_no (by unfold opnB;rw [h4];simp)]
      exact claim_Open_many hc h1 h2.1 h2.2 h3 h4
    | true => exact claim_Open_rest hc h1 h2.1 h2.2 h3 h4 (by unfold opnB;rw [h3,h4,decide_eq_true h1,decide_eq_true h2];simp)
theorem claim_Right {c : Cl} (hc : c.ok) : C E 17 [clD c] (.bool (opnB c)):=by
  refine CG_intro Tryz.func17 rfl (by kernel_rfl) rfl (by kernel_rfl) (by kernel_rfl) rfl ?_
  have hO:=claim_Open hc
  cases h : opnB c with
  | false =>
    rw [op_no h] at hO
    unfold fk0 at hO
    simp (disch:=first|exact dd|fail) only [go_sem,seval,clD]
    refine cA hO ?_
    simp (disch:=first|exact dd|fail) only [go_sem,seval]
    try exact LeV.refl _
  | true =>
    rw [op_yes h] at hO
    unfold fkD fkV at hO
    simp (disch:=first|exact dd|fail) only [go_sem,seval,clD]
    refine cA hO ?_
    simp (disch:=first|exact dd|fail) only [go_sem,seval]
    try exact LeV.refl _
theorem AReg_via {ops : Array Oper} {K : St → Prop} {s : St} (L : List (Nat × D)) (H : Hp) (n : Nat) (run : ∀ K' : St → Prop,(∀ e',EnvEq e' L → K' ⟨e',H,n⟩) → AReg E ops true K' s) (hK : ∀ e',EnvEq e' L → K ⟨e',H,n⟩) : AReg E ops true K s:=run K hK
theorem AReg_anyG (gs : Nat → Bool) (n : Nat) (U : List Nat) {ops : Array Oper} {K : St → Prop} {s : St} (hg : ∀ g,gs g = true → E.give g = true) (hn : ops.size = n) (hU : List.range n = U) (hm : maskOk ops (masks ops) = true) (h : AAnyS (E.lim gs) ops (masks ops) n U K s) : AReg E ops true K s:=by
  unfold AReg
  rw [if_pos rfl]
  intro B hB hd hb hL
  rw [hn,hU]
  refine shut_AAny (gs:=gs) hg hB hd n U s hL (AAnyS_sound (E:=E.lim gs) hB hd hm n U s (fun j k hj hk hkU => ?_) hL h)
  subst hU hn
  rw [List.mem_range] at hj
  rw [Array.getD_eq_getD_getElem?,Array.getElem?_eq_none (Nat.le_trans (masks_size ops) (by omega))] at hk
  simp at hk
def fsB (l : List (List Pt)) : List UInt8:=l.flatMap plB
def qsB (l : List Rat) : List UInt8:=l.flatMap qB
def esB (l : List (List (Rat × Rat))) : List UInt8:=l.flatMap bxBy
def hdB (c : Cl) : List UInt8:=[UInt8.ofNat c.k.toNat,UInt8.ofNat (boxR c.B).1.length] ++ bxBy (boxR c.B).1
def clB (c : Cl) : List UInt8:=hdB c ++ [UInt8.ofNat c.F.length] ++ fsB (c.F.map pV) ++ (if c.k = 2 then sB (clR c) else []) ++
  (if c.k = 5 then [UInt8.ofNat c.T.length] ++ qsB (tV c.T) ++ esB (eV c.E) else [])
theorem u8_nt {n : Nat} (h : n < 256) : (UInt8.ofNat n).toNat = n:=by rw [UInt8.toNat_ofNat'];omega
theorem bstr_m2 (b ver k m : Nat) (z a : Bool) (x y : Nat) (hx : x < 256) (hy : y < 256) (h : Hp) : bstr ((b, .row z ver a k m (fun i => [D.int .u8 (x : Int), .int .u8 (y : Int)].getD i .unk)) :: h) (.sl b ver 0 2) = some (.str [UInt8.ofNat x,UInt8.ofNat y]):=by
  refine bstr_of (l:=[UInt8.ofNat x,UInt8.ofNat y]) (if_pos rfl) rfl fun i hi => ?_
  obtain rfl | rfl : i = 0 ∨ i = 1:=by omega
  · show D.int .u8 (x : Int) = D.int .u8 ((UInt8.ofNat x).toNat : Int)
    rw [u8_nt hx]
  · show D.int .u8 (y : Int) = D.int .u8 ((UInt8.ofNat y).toNat : Int)
    rw [u8_nt hy]
theorem fm_take {α β : Type} {l : List α} {f : α → List β} {i : Nat} {d : α} (hi : i < l.length) : (l.take i).flatMap f ++ f (l.getD i d) = (l.take (i + 1)).flatMap f:=by
  rw [List.take_succ_eq_append_getElem hi,List.flatMap_append,List.getD_eq_getElem?_getD,List.getElem?_eq_getElem hi]
  simp
theorem fm_len {α β : Type} (l : List α) (f : α → List β) (i : Nat) : ((l.take i).flatMap f).length ≤ (l.flatMap f).length:=by
  conv => rhs;rw [← List.take_append_drop i l,List.flatMap_append,List.length_append]
  omega
theorem fm_bound {α β : Type} {l : List α} {f : α → List β} {K : Nat} (h : ∀ x ∈ l,(f x).length ≤ K) : (l.flatMap f).length ≤ K * l.length:=by
  induction l with
  | nil => simp
  | cons x l ih =>
    have h1:=h x (List.mem_cons_self ..)
    have h2:=ih fun y hy => h y (List.mem_cons_of_mem _ hy)
    rw [List.flatMap_cons,List.length_append,List.length_cons,Nat.mul_add,Nat.mul_one]
    omega
theorem pV_qb4 {l : List Tm} (h : okPl l = true) : ∀ p ∈ pV l,qb 4001 p.2:=by
  unfold pV
  simp only [List.forall_mem_map]
  intro t ht
  obtain ⟨i,hi,rfl⟩:=List.mem_iff_getElem.1 ht
  unfold okPl at h
  rw [List.all_eq_true] at h
  have h1:=h i (List.mem_range.2 hi)
  unfold okT at h1
  rw [List.getD_eq_getElem?_getD,List.getElem?_eq_getElem hi,Option.getD_some] at h1
  cases hq : rpO l[i].2 with
  | none => rw [hq] at h1;simp at h1
  | some q => exact rpO_qb hq
theorem plV_len {t : List Tm} (h : okPl t = true) (hl : t.length ≤ 100000) : (plB (pV t)).length ≤ 3300000000:=by
  have h1 : (tsB (pV t)).length ≤ 32031 * (pV t).length:=fm_bound fun p hp => by
    have h2:=qB_max (by omega) (pV_qb4 h p hp)
    unfold tB mB
    rw [List.length_append]
    simp only [List.length_cons,List.length_nil]
    omega
  have h2:=vput_len (pV t).length (by rw [pV_len];omega)
  unfold plB
  rw [List.length_append]
  rw [pV_len] at h1 h2
  rw [pV_len]
  omega
theorem okFs_at {n : Nat} {l : List (List Tm)} (h : okFs n l = true) {t : List Tm} (ht : t ∈ l) : okPl t = true ∧ plOk t = true:=by
  unfold okFs at h
  rw [List.all_eq_true] at h
  have:=h t ht
  unfold okF at this
  simp only [Bool.and_eq_true] at this
  refine ⟨?_,this.1⟩
  have h2:=this.1
  unfold plOk at h2
  simp only [Bool.and_eq_true] at h2
  exact h2.1
theorem okTE_at {n : Nat} {c : Cl} (h : okTE n c = true) : (∀ q ∈ tV c.T,qb 4001 q) ∧ ∀ b ∈ eV c.E,(∀ p ∈ b,qb 40000000 p.1 ∧ qb 40000000 p.2) ∧ 1 ≤ b.length ∧ b.length ≤ 3:=by
  unfold okTE at h
  simp only [Bool.and_eq_true,decide_eq_true_eq] at h
  obtain ⟨⟨⟨⟨h1,h2⟩,h3⟩,h4⟩,h5⟩:=h
  unfold okTs at h5
  rw [List.all_eq_true] at h5
  constructor
  · unfold tV
    simp only [List.forall_mem_map]
    intro t ht
    obtain ⟨i,hi,rfl⟩:=List.mem_iff_getElem.1 ht
    have:=h5 i (List.mem_range.2 hi)
    unfold okTi at this
    simp only [Bool.and_eq_true] at this
    have h6:=this.1.1
    rw [List.getD_eq_getElem?_getD,List.getElem?_eq_getElem hi,Option.getD_some] at h6
    cases hq : dpO c.T[i] with
    | none => rw [hq] at h6;simp at h6
    | some q => rw [(dpO_rp hq).1];exact rpO_qb (dpO_rp hq).1
  · unfold eV
    simp only [List.forall_mem_map]
    intro e he
    obtain ⟨i,hi,rfl⟩:=List.mem_iff_getElem.1 he
    have:=h5 i (List.mem_range.2 (by omega))
    unfold okTi at this
    simp only [Bool.and_eq_true,decide_eq_true_eq] at this
    have h6:=this.1.2
    rw [List.getD_eq_getElem?_getD,List.getElem?_eq_getElem hi,Option.getD_some] at h6
    have hb:=boxR_ok h6
    exact ⟨fun p hp => ⟨(hb.1.2.2 p hp).1.mono (by omega),(hb.1.2.2 p hp).2.mono (by omega)⟩,hb.2.1,hb.2.2⟩
theorem qb_nought {k : Nat} : qb (k + 1) 0:=⟨by show nb 0 ≤ _;rw [nb,limbs_zero];simp,Nat.le_trans (nb_lt.2 (show 1 < 4294967296 ^ 1 by omega)) (by omega)⟩
def clBD (c : Cl) : D:=.tup [.str (if opnB c = true then clB c else []), .bool (opnB c)]
theorem claim_Bytes_no {c : Cl} (hc : c.ok) (h : opnB c = false) : C E 19 [clD c] (clBD c):=by
  refine CG_intro Tryz.func19 rfl (by kernel_rfl) rfl (by kernel_rfl) (by kernel_rfl) rfl ?_
  have hO:=claim_Open hc
  rw [op_no h] at hO
  unfold fk0 at hO
  unfold clBD
  rw [h]
  simp (disch:=first|exact dd|fail) only [go_sem,seval,clD]
  refine cA hO ?_
  simp (disch:=first|exact dd|fail) only [go_sem,seval]
  try exact LeV.refl _
theorem opn_facts {c : Cl} (h : opnB c = true) : (boxR c.B).2 = 0 ∧ 1 ≤ c.k ∧ c.k ≤ 5 ∧ okFs (boxR c.B).1.length c.F = true ∧ c.F.length ≤ 3 ∧ 1 ≤ c.F.length ∧ (c.k = 5 → okTE (boxR c.B).1.length c = true ∧ c.T.length ≤ 8 ∧ 1 ≤ c.T.length ∧ c.E.length = c.T.length) ∧ (c.k = 2 → (spR c.R.1 c.R.2).2 = 0):=by
  unfold opnB at h
  simp only [Bool.and_eq_true,decide_eq_true_eq] at h
  obtain ⟨⟨⟨⟨⟨h1,h2⟩,h3⟩,h4⟩,h5⟩,h6⟩:=h
  have hb:=(boxR_ok h1).2
  refine ⟨h1,h2.1,h2.2,h3, ?_, ?_,fun k5 => ?_,fun k2 => ?_⟩
  · unfold manyB at h4
    split at h4
    · simp at h4;omega
    split at h4
    · simp at h4;omega
    · simp at h4;omega
  · unfold manyB at h4
    split at h4
    · simp at h4;omega
    split at h4
    · simp at h4;omega
    · simp at h4;omega
  · unfold tOK at h6
    rw [if_pos k5] at h6
    refine ⟨h6, ?_⟩
    unfold okTE at h6
    simp at h6
    exact ⟨h6.1.1.1.2,h6.1.1.1.1,h6.1.1.2⟩
  · unfold rOK at h5
    rw [if_pos k2] at h5
    simpa using h5
theorem claim_Bytes_yes {c : Cl} (hc : c.ok) (h : opnB c = true) : C E 19 [clD c] (.tup [.str (clB c), .bool true]):=by
  refine CG_intro Tryz.func19 rfl (by kernel_rfl) rfl (by kernel_rfl) (by kernel_rfl) rfl ?_
  have hO:=claim_Open hc
  rw [op_yes h] at hO
  obtain ⟨f1,f2,f3,f4,f5,f6,f7,f8⟩:=opn_facts h
  have hbo:=boxR_ok f1
  have hbq : ∀ p ∈ (boxR c.B).1,qb 40000000 p.1 ∧ qb 40000000 p.2:=fun p hp => ⟨(hbo.1.2.2 p hp).1.mono (by omega),(hbo.1.2.2 p hp).2.mono (by omega)⟩
  have hPB:=putBox hbq (by omega) (by omega)
  have hbl:=bxBy_len hbq
  have hb3:=hbo.2.2
  obtain ⟨k,hk⟩:=Int.eq_ofNat_of_zero_le (show 0 ≤ c.k by omega)
  unfold fkD fkV at hO
  simp (disch:=first|exact dd|fail) only [go_sem,seval,clD]
  refine cA hO ?_
  simp (disch:=first|exact dd|fail) only [go_sem,seval]
  have hkk : c.k.toNat = k:=by omega
  have hw : IntKind.u8.wrap (k : Int) = (k : Int):=wrap_u8 (by omega)
  have hw2 : IntKind.u8.wrap ((boxR c.B).1.length : Int) = ((boxR c.B).1.length : Int):=wrap_u8 (by omega)
  have hb2 : ∀ (b ver k' m : Nat) (z a : Bool) (h : Hp),bstr ((b, .row z ver a k' m (fun i => [D.int .u8 (k : Int), .int .u8 ((boxR c.B).1.length : Int)].getD i .unk)) :: h) (.sl b ver 0 2) = some (.str [UInt8.ofNat k,UInt8.ofNat (boxR c.B).1.length]):=
    fun b ver k' m z a h => bstr_m2 b ver k' m z a k (boxR c.B).1.length (by omega) (by omega) h
  have hhd : [UInt8.ofNat k,UInt8.ofNat (boxR c.B).1.length] ++ bxBy (boxR c.B).1 = hdB c:=by unfold hdB;rw [hkk]
  have hhl : (hdB c).length = 2 + (bxBy (boxR c.B).1).length:=by rw [← hhd,List.length_append];rfl
  have hFl : (c.F.map pV).length = c.F.length:=List.length_map _
  have hFb : ∀ l ∈ c.F.map pV,(plB l).length ≤ 3300000000 ∧ (∀ p ∈ l,qb 1000000 p.2) ∧ l.length ≤ 100000:=by
    simp only [List.forall_mem_map]
    intro t ht
    have h1:=(okFs_at f4 ht).1
    have h2:=(hc.F.2 t ht).1
    exact ⟨plV_len h1 h2,pV_qb h1,by rw [pV_len];exact h2⟩
  have hFt:=fm_bound (l:=c.F.map pV) (f:=plB) fun l hl => (hFb l hl).1
  rw [hFl] at hFt
  have hwF : IntKind.u8.wrap (c.F.length : Int) = (c.F.length : Int):=wrap_u8 (by omega)
  have hRq : qb 40000000 (clR c).1 ∧ qb 40000000 (clR c).2:=by
    unfold clR
    split
    · exact ⟨(spR_qb _ _).1.mono (by omega),(spR_qb _ _).2.1.mono (by omega)⟩
    · exact ⟨qb_nought,qb_nought⟩
  refine AReg_via [(4, .ad 1 0),(6, .ad 2 0)] [(6, .row false 0 false 1 (hdB c).length (bR (hdB c)) 5),(3, .row false 0 false 1 2 fun i => [D.int .u8 (k : Int), .int .u8 ((boxR c.B).1.length : Int)].getD i .unk),
    (2, .var true 2 (.agg [.ad 2 0, .sl 6 0 0 (hdB c).length]) 116),(1, .var true 11 (fkD c)),(0, .var true 7 (clD c))] 7 (fun K' hK' => ?_) ?_
  rotate_left
  · clear hb2 hw hw2 hPB hO
    have hbb : 0 < (hdB c).length ∧ (hdB c).length < 20000000000:=by omega
    have hkd : fkD c = .agg [.int .i64 (k : Int),pfD (c.F.map pV),bxD (boxR c.B).1,u32s (limbs (clR c).1.num.natAbs), .bool (decide ((clR c).1.num < 0)),u32s (limbs (qden (clR c).1)),u32s (limbs (clR c).2.num.natAbs), .bool (decide ((clR c).2.num < 0)),u32s (limbs (qden (clR c).2)),qlD (tV c.T),bfD (eV c.E)]:=by
      unfold fkD fkV;rw [hk]
    unfold clB
    generalize hdB c = P at *
    generalize fkD c = f at *
    intro e' he'
    simp only [EnvEq_cons,EnvEq_nil] at he'
    simp (disch:=first|exact dd|fail) only [go_sem,seval,he',hkd,hFl,hwF,pfD]
    have hw1:=sbByte1 0 P (UInt8.ofNat c.F.length) (by omega)
    rw [u8_nt (by omega)] at hw1
    refine callG [2,6] hw1 rfl rfl (LesV.refl _) rfl ?_
    simp (disch:=first|exact dd|fail) only [go_sem,seval,sbU,pfD,hFl,he']
    have hQ0 : (P ++ [UInt8.ofNat c.F.length]).length = P.length + 1:=by simp
    generalize hQ : P ++ [UInt8.ofNat c.F.length] = Q0 at *
    have hCt:=fun i => fm_len (c.F.map pV) plB i
    refine AL.of (fun i : Nat => i ≤ c.F.length) (fun i => c.F.length - i) (fun i => [(4, .ad 1 0),(6, .ad 2 0),(40,pfD (c.F.map pV)),(41, .int .i64 c.F.length),(42, .int .i64 i)])
      (fun i => [(1, .var true 11 f),(2, .var true 2 (.agg [.ad 2 0, .sl 6 (1 + i) 0 (Q0 ++ fsB ((c.F.map pV).take i)).length]) 116),(6,sbW (1 + i) (Q0 ++ fsB ((c.F.map pV).take i)))]) 0 (Nat.zero_le _) ?_ ?_ ?_ ?_
    · simp (disch:=first|exact dd|fail) only [go_sem,seval,pfD,hFl,he']
      all_goals first | exact fun _ _ => trivial | exact LeV.refl _ | exact ⟨LeV.refl _,fun _ _ => trivial⟩ | exact ⟨LeV.refl _,LeV.refl _⟩
    · have e : Q0 ++ fsB ((c.F.map pV).take 0) = Q0:=by simp [fsB]
      rw [e]
      simp (disch:=first|exact dd|fail) only [go_sem,seval,sbW,hkd,pfD,hFl,hQ0]
      all_goals first | exact fun _ _ => trivial | exact LeV.refl _ | exact ⟨LeV.refl _,fun _ _ => trivial⟩ | exact ⟨LeV.refl _,LeV.refl _⟩
    · intro x _;simp (disch:=first|exact dd|fail) only [go_sem,seval,sbW]
    intro i hi
    have hci:=hCt i
    have hml : (Q0 ++ fsB ((c.F.map pV).take i)).length = Q0.length + (fsB ((c.F.map pV).take i)).length:=List.length_append
    have hml2 : (fsB ((c.F.map pV).take i)).length ≤ 3300000000 * c.F.length:=Nat.le_trans hci hFt
    by_cases hil : i = c.F.length
    case neg =>
      have hx:=hFb _ (getD_mem' (c.F.map pV) i [] (by omega))
      have hp1 : pfR (c.F.map pV) i = pD ((c.F.map pV).getD i []):=rfl
      have hpp:=putPoly hx.2.1 hx.2.2
      have hsn:=fm_take (l:=c.F.map pV) (f:=plB) (i:=i) (d:=[]) (by omega)
      have hsn2 : (Q0 ++ fsB ((c.F.map pV).take i)) ++ plB ((c.F.map pV).getD i []) = Q0 ++ fsB ((c.F.map pV).take (i + 1)):=by
        unfold fsB
        rw [← hsn,List.append_assoc]
      have hx1:=hx.1
      clear hx hsn hci
      generalize (c.F.map pV).getD i [] = t at *
      generalize hm1 : Q0 ++ fsB ((c.F.map pV).take i) = m at *
      generalize hm2 : Q0 ++ fsB ((c.F.map pV).take (i + 1)) = m' at *
      have hlm2 : Q0.length + (fsB ((c.F.map pV).take (i + 1))).length = m.length + (plB t).length:=by rw [← List.length_append,hm2,← hsn2,List.length_append]
      have e1 : 1 + (i + 1) = 1 + i + 1:=by omega
      have hw2:=sbWrite1 (1 + i) m (plB t) (by omega)
      rw [hsn2] at hw2
      simp (disch:=first|exact dd|fail) only [go_sem,seval,sbW,pfD,hFl,hp1]
      refine cA hpp ?_
      simp (disch:=first|exact dd|fail) only [go_sem,seval]
      refine callG [2,6] hw2 rfl rfl (LesV.refl _) rfl ?_
      simp (disch:=first|exact dd|fail) only [go_sem,seval,sbU]
      refine ⟨i + 1,by show i + 1 ≤ c.F.length;omega,by show c.F.length - (i + 1) < c.F.length - i;omega, ?_, ?_⟩
      · simp (disch:=first|exact dd|fail) only [go_sem,seval,pfD,hFl]
        all_goals first | exact fun _ _ => trivial | exact LeV.refl _ | exact ⟨LeV.refl _,fun _ _ => trivial⟩ | exact ⟨LeV.refl _,LeV.refl _⟩
      · simp (disch:=first|exact dd|fail) only [go_sem,seval,hm2,hlm2,e1,hkd]
        all_goals first | exact fun _ _ => trivial | exact LeV.refl _ | exact ⟨LeV.refl _,fun _ _ => trivial⟩ | exact ⟨LeV.refl _,LeV.refl _⟩
    have hta : (c.F.map pV).take i = c.F.map pV:=List.take_of_length_le (by omega)
    rw [hta] at hml hml2 ⊢
    generalize hm1 : Q0 ++ fsB (c.F.map pV) = m at *
    by_cases k2 : k = 2
    · have hps:=putSpan hRq.1 hRq.2
      have hsl:=sB_max hRq.1 hRq.2
      have hw2:=sbWrite1 (1 + i) m (sB (clR c)) (by omega)
      rw [if_pos (by omega),if_neg (by omega),List.append_nil]
      have hkd2:=hkd
      simp (disch:=first|exact dd|fail) only [go_sem,seval,sbW,pfD,hFl,hil,hkd]
      refine cA hps ?_
      simp (disch:=first|exact dd|fail) only [go_sem,seval]
      rw [hil] at hw2
      refine callG [2,6] hw2 rfl rfl (LesV.refl _) rfl ?_
      have hlm3 : (m ++ sB (clR c)).length = m.length + (sB (clR c)).length:=List.length_append
      generalize hm3 : m ++ sB (clR c) = m3 at *
      simp (disch:=first|exact dd|fail) only [go_sem,seval,sbU]
      have hst:=sbString (1 + c.F.length + 1) m3 (by omega)
      rw [hlm3] at hst
      refine callG [2,6] hst rfl rfl (LesV.refl _) rfl ?_
      simp (disch:=first|exact dd|fail) only [go_sem,seval]
      try exact LeV.refl _
    by_cases k5 : k = 5
    case neg =>
      rw [if_neg (by omega),if_neg (by omega),List.append_nil,List.append_nil]
      simp (disch:=first|exact dd|fail) only [go_sem,seval,sbW,pfD,hFl,hil,hkd]
      refine callG [2,6] (sbString (1 + c.F.length) m (by omega)) rfl rfl (LesV.refl _) rfl ?_
      simp (disch:=first|exact dd|fail) only [go_sem,seval]
      try exact LeV.refl _
    obtain ⟨g1,g2,g3,g4⟩:=f7 (by omega)
    obtain ⟨g5,g6⟩:=okTE_at g1
    have hTl : (tV c.T).length = c.T.length:=List.length_map _
    have hEl : (eV c.E).length = c.T.length:=by unfold eV;rw [List.length_map,g4]
    have hTt:=fm_bound (l:=tV c.T) (f:=qB) (K:=32028) fun q hq => by
      have:=qB_max (by omega) (g5 q hq)
      omega
    have hEt:=fm_bound (l:=eV c.E) (f:=bxBy) (K:=1920000120) fun b hb => by
      have:=(bxBy_len (g6 b hb).1).1
      have:=(g6 b hb).2.2
      omega
    rw [hTl] at hTt
    rw [hEl] at hEt
    rw [if_neg (by omega),if_pos (by omega),List.append_nil]
    have hwT : IntKind.u8.wrap (c.T.length : Int) = (c.T.length : Int):=wrap_u8 (by omega)
    have hw2:=sbByte1 (1 + c.F.length) m (UInt8.ofNat c.T.length) (by omega)
    rw [u8_nt (by omega)] at hw2
    simp (disch:=first|exact dd|fail) only [go_sem,seval,sbW,pfD,qlD,hFl,hTl,hil,hkd,hwT]
    refine callG [2,6] hw2 rfl rfl (LesV.refl _) rfl ?_
    simp (disch:=first|exact dd|fail) only [go_sem,seval,sbU,qlD,hTl]
    have hQ1 : (m ++ [UInt8.ofNat c.T.length]).length = m.length + 1:=by simp
    generalize hR1 : m ++ [UInt8.ofNat c.T.length] = Q1 at *
    have hTc:=fun i => fm_len (tV c.T) qB i
    refine AL.of (fun i : Nat => i ≤ c.T.length) (fun i => c.T.length - i) (fun i => [(4, .ad 1 0),(6, .ad 2 0),(66,qlD (tV c.T)),(67, .int .i64 c.T.length),(68, .int .i64 i)])
      (fun i => [(1, .var true 11 f),(2, .var true 2 (.agg [.ad 2 0, .sl 6 (1 + c.F.length + 1 + i) 0 (Q1 ++ qsB ((tV c.T).take i)).length]) 116),(6,sbW (1 + c.F.length + 1 + i) (Q1 ++ qsB ((tV c.T).take i)))]) 0 (Nat.zero_le _) ?_ ?_ ?_ ?_
    · simp (disch:=first|exact dd|fail) only [go_sem,seval,qlD,hTl]
      all_goals first | exact fun _ _ => trivial | exact LeV.refl _ | exact ⟨LeV.refl _,fun _ _ => trivial⟩ | exact ⟨LeV.refl _,LeV.refl _⟩
    · have e : Q1 ++ qsB ((tV c.T).take 0) = Q1:=by simp [qsB]
      rw [e]
      simp (disch:=first|exact dd|fail) only [go_sem,seval,sbW,hkd,pfD,qlD,hFl,hTl,hQ1]
      all_goals first | exact fun _ _ => trivial | exact LeV.refl _ | exact ⟨LeV.refl _,fun _ _ => trivial⟩ | exact ⟨LeV.refl _,LeV.refl _⟩
    · intro x _;simp (disch:=first|exact dd|fail) only [go_sem,seval,sbW]
    intro j hj
    have htj : (qsB ((tV c.T).take j)).length ≤ 32028 * c.T.length:=Nat.le_trans (hTc j) hTt
    have hmj : (Q1 ++ qsB ((tV c.T).take j)).length = Q1.length + (qsB ((tV c.T).take j)).length:=List.length_append
    by_cases hjl : j = c.T.length
    case neg =>
      have hq1:=g5 _ (getD_mem' (tV c.T) j 0 (by omega))
      have hp1 : qR (tV c.T) j = qD ((tV c.T).getD j 0):=rfl
      have hpp:=vint_PutRat (hq1.mono (k:=40000000) (by omega))
      have hx1:=qB_max (by omega) hq1
      have hsn:=fm_take (l:=tV c.T) (f:=qB) (i:=j) (d:=0) (by omega)
      have hsn2 : (Q1 ++ qsB ((tV c.T).take j)) ++ qB ((tV c.T).getD j 0) = Q1 ++ qsB ((tV c.T).take (j + 1)):=by
        unfold qsB
        rw [← hsn,List.append_assoc]
      clear hsn hTc
      generalize (tV c.T).getD j 0 = t at *
      generalize hn1 : Q1 ++ qsB ((tV c.T).take j) = n at *
      generalize hn2 : Q1 ++ qsB ((tV c.T).take (j + 1)) = n' at *
      have hlm2 : Q1.length + (qsB ((tV c.T).take (j + 1))).length = n.length + (qB t).length:=by rw [← List.length_append,hn2,← hsn2,List.length_append]
      have e1 : 1 + c.F.length + 1 + (j + 1) = 1 + c.F.length + 1 + j + 1:=by omega
      have hw3:=sbWrite1 (1 + c.F.length + 1 + j) n (qB t) (by omega)
      rw [hsn2] at hw3
      simp (disch:=first|exact dd|fail) only [go_sem,seval,sbW,qlD,hTl,hp1]
      refine cA hpp ?_
      simp (disch:=first|exact dd|fail) only [go_sem,seval]
      refine callG [2,6] hw3 rfl rfl (LesV.refl _) rfl ?_
      simp (disch:=first|exact dd|fail) only [go_sem,seval,sbU]
      refine ⟨j + 1,by show j + 1 ≤ c.T.length;omega,by show c.T.length - (j + 1) < c.T.length - j;omega, ?_, ?_⟩
      · simp (disch:=first|exact dd|fail) only [go_sem,seval,qlD,hTl]
        all_goals first | exact fun _ _ => trivial | exact LeV.refl _ | exact ⟨LeV.refl _,fun _ _ => trivial⟩ | exact ⟨LeV.refl _,LeV.refl _⟩
      · simp (disch:=first|exact dd|fail) only [go_sem,seval,hn2,hlm2,e1,hkd]
        all_goals first | exact fun _ _ => trivial | exact LeV.refl _ | exact ⟨LeV.refl _,fun _ _ => trivial⟩ | exact ⟨LeV.refl _,LeV.refl _⟩
    have hta : (tV c.T).take j = tV c.T:=List.take_of_length_le (by omega)
    rw [hta] at hmj htj ⊢
    generalize hn1 : Q1 ++ qsB (tV c.T) = n at *
    simp (disch:=first|exact dd|fail) only [go_sem,seval,sbW,qlD,bfD,hTl,hEl,hjl,hkd]
    have hEc:=fun i => fm_len (eV c.E) bxBy i
    refine AL.of (fun i : Nat => i ≤ c.T.length) (fun i => c.T.length - i) (fun i => [(6, .ad 2 0),(77,bfD (eV c.E)),(78, .int .i64 c.T.length),(79, .int .i64 i)])
      (fun i => [(2, .var true 2 (.agg [.ad 2 0, .sl 6 (1 + c.F.length + 1 + c.T.length + i) 0 (n ++ esB ((eV c.E).take i)).length]) 116),(6,sbW (1 + c.F.length + 1 + c.T.length + i) (n ++ esB ((eV c.E).take i)))]) 0 (Nat.zero_le _) ?_ ?_ ?_ ?_
    · simp (disch:=first|exact dd|fail) only [go_sem,seval,bfD,hEl]
      all_goals first | exact fun _ _ => trivial | exact LeV.refl _ | exact ⟨LeV.refl _,fun _ _ => trivial⟩ | exact ⟨LeV.refl _,LeV.refl _⟩
    · have e : n ++ esB ((eV c.E).take 0) = n:=by simp [esB]
      rw [e]
      simp (disch:=first|exact dd|fail) only [go_sem,seval,sbW]
      all_goals first | exact fun _ _ => trivial | exact LeV.refl _ | exact ⟨LeV.refl _,fun _ _ => trivial⟩ | exact ⟨LeV.refl _,LeV.refl _⟩
    · intro x _;simp (disch:=first|exact dd|fail) only [go_sem,seval,sbW]
    intro u hu
    have heu : (esB ((eV c.E).take u)).length ≤ 1920000120 * c.T.length:=Nat.le_trans (hEc u) hEt
    have hmu : (n ++ esB ((eV c.E).take u)).length = n.length + (esB ((eV c.E).take u)).length:=List.length_append
    by_cases hul : u = c.T.length
    case neg =>
      have hq1:=g6 _ (getD_mem' (eV c.E) u [] (by omega))
      have hp1 : bfR (eV c.E) u = bxD ((eV c.E).getD u []):=rfl
      have hpp:=putBox hq1.1 (by omega) (by omega)
      have hx1:=(bxBy_len hq1.1).1
      have hx2:=hq1.2.2
      have hsn:=fm_take (l:=eV c.E) (f:=bxBy) (i:=u) (d:=[]) (by omega)
      have hsn2 : (n ++ esB ((eV c.E).take u)) ++ bxBy ((eV c.E).getD u []) = n ++ esB ((eV c.E).take (u + 1)):=by
        unfold esB
        rw [← hsn,List.append_assoc]
      clear hsn hEc hq1
      generalize (eV c.E).getD u [] = t at *
      generalize hn2 : n ++ esB ((eV c.E).take u) = o at *
      generalize hn3 : n ++ esB ((eV c.E).take (u + 1)) = o' at *
      have hlm2 : n.length + (esB ((eV c.E).take (u + 1))).length = o.length + (bxBy t).length:=by rw [← List.length_append,hn3,← hsn2,List.length_append]
      have e1 : 1 + c.F.length + 1 + c.T.length + (u + 1) = 1 + c.F.length + 1 + c.T.length + u + 1:=by omega
      have hw3:=sbWrite1 (1 + c.F.length + 1 + c.T.length + u) o (bxBy t) (by omega)
      rw [hsn2] at hw3
      simp (disch:=first|exact dd|fail) only [go_sem,seval,sbW,bfD,hEl,hp1]
      refine cA hpp ?_
      simp (disch:=first|exact dd|fail) only [go_sem,seval]
      refine callG [2,6] hw3 rfl rfl (LesV.refl _) rfl ?_
      simp (disch:=first|exact dd|fail) only [go_sem,seval,sbU]
      refine ⟨u + 1,by show u + 1 ≤ c.T.length;omega,by show c.T.length - (u + 1) < c.T.length - u;omega, ?_, ?_⟩
      · simp (disch:=first|exact dd|fail) only [go_sem,seval,bfD,hEl]
        all_goals first | exact fun _ _ => trivial | exact LeV.refl _ | exact ⟨LeV.refl _,fun _ _ => trivial⟩ | exact ⟨LeV.refl _,LeV.refl _⟩
      · simp (disch:=first|exact dd|fail) only [go_sem,seval,hn3,hlm2,e1]
        all_goals first | exact fun _ _ => trivial | exact LeV.refl _ | exact ⟨LeV.refl _,fun _ _ => trivial⟩ | exact ⟨LeV.refl _,LeV.refl _⟩
    have hta : (eV c.E).take u = eV c.E:=List.take_of_length_le (by omega)
    rw [hta] at hmu heu ⊢
    have hcat : m ++ UInt8.ofNat c.T.length :: (qsB (tV c.T) ++ esB (eV c.E)) = n ++ esB (eV c.E):=by rw [← hn1,← hR1];simp
    rw [hcat]
    generalize hn2 : n ++ esB (eV c.E) = o at *
    simp (disch:=first|exact dd|fail) only [go_sem,seval,sbW,bfD,hEl,hul]
    refine callG [2,6] (sbString (1 + c.F.length + 1 + c.T.length + c.T.length) o (by omega)) rfl rfl (LesV.refl _) rfl ?_
    simp (disch:=first|exact dd|fail) only [go_sem,seval]
    try exact LeV.refl _
  refine AReg_anyG (fun g => g == 50) 14 [0,1,2,3,4,5,6,7,8,9,10,11,12,13] (fun _ _ => rfl) rfl rfl (by decide +kernel) ?_
  refine AAny_free 0 [1,2,3,4,5,6,7,8,9,10,11,12,13] (by decide +kernel) rfl ?_
  refine AI_at _ rfl ?_
  simp (disch:=first|exact dd|fail) only [go_sem,seval,hk,hw,hw2,hb2,bxD,hhd]
  refine AAny_free 1 [2,3,4,5,6,7,8,9,10,11,12,13] (by decide +kernel) rfl ?_
  refine AI_at _ rfl ?_
  simp (disch:=first|exact dd|fail) only [go_sem,seval,hk,hw,hw2,hb2,bxD,hhd]
  refine AAny_free 2 [3,4,5,6,7,8,9,10,11,12,13] (by decide +kernel) rfl ?_
  refine AI_at _ rfl ?_
  simp (disch:=first|exact dd|fail) only [go_sem,seval,hk,hw,hw2,hb2,bxD,hhd]
  refine AAny_free 3 [4,5,6,7,8,9,10,11,12,13] (by decide +kernel) rfl ?_
  refine AI_at _ rfl ?_
  simp (disch:=first|exact dd|fail) only [go_sem,seval,hk,hw,hw2,hb2,bxD,hhd]
  refine AAny_free 4 [5,6,7,8,9,10,11,12,13] (by decide +kernel) rfl ?_
  refine AI_at _ rfl ?_
  simp (disch:=first|exact dd|fail) only [go_sem,seval,hk,hw,hw2,hb2,bxD,hhd]
  refine AAny_free 5 [6,7,8,9,10,11,12,13] (by decide +kernel) rfl ?_
  refine AI_at _ rfl ?_
  simp (disch:=first|exact dd|fail) only [go_sem,seval,hk,hw,hw2,hb2,bxD,hhd]
  refine AAny_free 6 [7,8,9,10,11,12,13] (by decide +kernel) rfl ?_
  refine AI_at _ rfl ?_
  simp (disch:=first|exact dd|fail) only [go_sem,seval,hk,hw,hw2,hb2,bxD,hhd]
  refine AAny_free 9 [7,8,10,11,12,13] (by decide +kernel) rfl ?_
  refine AI_at _ rfl ?_
  simp (disch:=first|exact dd|fail) only [go_sem,seval,hk,hw,hw2,hb2,bxD,hhd]
  refine AAny_free 10 [7,8,11,12,13] (by decide +kernel) rfl ?_
  refine AI_at _ rfl ?_
  simp (disch:=first|exact dd|fail) only [go_sem,seval,hk,hw,hw2,hb2,bxD,hhd]
  refine AAny_step [(7,[8,11,12,13]),(11,[7,8,12,13])] (by decide +kernel) rfl ?_
  refine forall_more ?_ ?_
  · refine AI_at _ rfl ?_
    simp (disch:=first|exact dd|fail) only [go_sem,seval,hk,hw,hw2,hb2,bxD,hhd]
    refine AAny_free 8 [11,12,13] (by decide +kernel) rfl ?_
    refine AI_at _ rfl ?_
    simp (disch:=first|exact dd|fail) only [go_sem,seval,hk,hw,hw2,hb2,bxD,hhd]
    refine AAny_free 11 [12,13] (by decide +kernel) rfl ?_
    refine AI_at _ rfl ?_
    simp (disch:=first|exact dd|fail) only [go_sem,seval,hk,hw,hw2,hb2,bxD,hhd]
    refine cA hPB ?_
    simp (disch:=first|exact dd|fail) only [go_sem,seval]
    refine AAny_free 12 [13] (by decide +kernel) rfl ?_
    refine AI_at _ rfl ?_
    simp (disch:=first|exact dd|fail) only [go_sem,seval,hk,hw,hw2,hb2,bxD,hhd]
    refine AAny_free 13 [] (by decide +kernel) rfl ?_
    refine AI_at _ rfl ?_
    simp (disch:=first|exact dd|fail) only [go_sem,seval,hk,hw,hw2,hb2,bxD,hhd]
    refine callG [2] (sbWrite0 (hdB c) (by omega)) rfl rfl (LesV.refl _) rfl ?_
    simp (disch:=first|exact dd|fail) only [go_sem,seval,sbR]
    refine AAny_end ?_
    simp only [fkD,fkV,clD,hk] at hK'
    exact hK' _ ⟨rfl,rfl,trivial⟩
  refine forall_one ?_
  refine AI_at _ rfl ?_
  simp (disch:=first|exact dd|fail) only [go_sem,seval,hk,hw,hw2,hb2,bxD,hhd]
  refine cA hPB ?_
  simp (disch:=first|exact dd|fail) only [go_sem,seval]
  refine AAny_free 7 [8,12,13] (by decide +kernel) rfl ?_
  refine AI_at _ rfl ?_
  simp (disch:=first|exact dd|fail) only [go_sem,seval,hk,hw,hw2,hb2,bxD,hhd]
  refine AAny_free 8 [12,13] (by decide +kernel) rfl ?_
  refine AI_at _ rfl ?_
  simp (disch:=first|exact dd|fail) only [go_sem,seval,hk,hw,hw2,hb2,bxD,hhd]
  refine AAny_free 12 [13] (by decide +kernel) rfl ?_
  refine AI_at _ rfl ?_
  simp (disch:=first|exact dd|fail) only [go_sem,seval,hk,hw,hw2,hb2,bxD,hhd]
  refine AAny_free 13 [] (by decide +kernel) rfl ?_
  refine AI_at _ rfl ?_
  simp (disch:=first|exact dd|fail) only [go_sem,seval,hk,hw,hw2,hb2,bxD,hhd]
  refine callG [2] (sbWrite0 (hdB c) (by omega)) rfl rfl (LesV.refl _) rfl ?_
  simp (disch:=first|exact dd|fail) only [go_sem,seval,sbR]
  refine AAny_end ?_
  simp only [fkD,fkV,clD,hk] at hK'
  exact hK' _ ⟨rfl,rfl,trivial⟩
theorem claim_Bytes {c : Cl} (hc : c.ok) : C E 19 [clD c] (clBD c):=by
  cases h : opnB c with
  | false => exact claim_Bytes_no hc h
  | true =>
    unfold clBD
    rw [h]
    exact claim_Bytes_yes hc h
section
variable (c : Cl) (h : Hp) (ρ : Nat → Option Nat) (r : Nat → Nat)
theorem flat_clD : flat (clD c) = false:=Eq.trans rfl rfl
theorem imp_clD : imp ρ h (clD c) = clD c:=Eq.trans rfl rfl
theorem asAgg_clD : asAgg (clD c) = some [.int .i64 c.k,fsD c.F,txD c.B, .str c.R.1, .str c.R.2,tlD c.T,esD c.E]:=Eq.trans rfl rfl
theorem ex_clD : exD r (clD c) = clD c:=Eq.trans rfl rfl
end
attribute [go_sem] flat_clD imp_clD asAgg_clD ex_clD

end Go.Proofs.YtakaojkfipnfcaaGreatDoor.Lv
