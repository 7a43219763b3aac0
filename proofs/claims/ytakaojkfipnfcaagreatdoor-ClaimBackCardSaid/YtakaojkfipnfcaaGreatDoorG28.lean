/- The same claim; law ClaimReads. Light claims. Arguments: claims. Reading back what was written: numbers. Reading back what was written: sides, terms, claims. Light claims are read back: law ClaimBack. What the row's list gives: the library's table, as the engine reads it. -/
import Derived.Test.YtakaojkfipnfcaaGreatDoorG27
import Derived.Test.YtakaojkfipnfcaaGreatDoorG26
import Derived.Test.YtakaojkfipnfcaaGreatDoorG22
import Derived.Test.YtakaojkfipnfcaaGreatDoorG10
import Derived.Lib.LaidTab
set_option linter.unusedVariables false
set_option linter.unusedSimpArgs false
set_option maxRecDepth 100000
set_option maxHeartbeats 4000000
namespace Go.Proofs.YtakaojkfipnfcaaGreatDoor.Lv
open Go Go.RowKit
theorem book_SameTexts (l : List Txt) (hl : l.length < 1073741824) : C E 64 [tlD l,tlD l] (.bool true):=by
  refine CG_intro Tryz.func64 rfl (by kernel_rfl) rfl (by kernel_rfl) (by kernel_rfl) rfl ?_
  have hd : tlD l = .ro false 1 l.length (tR l):=rfl
  simp (disch:=first|exact dd|fail) only [go_sem,seval,hd]
  refine AL.of (fun i : Nat => i ≤ l.length) (fun i => l.length - i) (fun i => [(0,tlD l),(1,tlD l),(5, .int .i64 i)]) (fun _ => []) 0 (Nat.zero_le _) ?_ ?_ ?_ ?_
  · simp (disch:=first|exact dd|fail) only [go_sem,seval,hd]
    try exact LeV.refl _
  · simp (disch:=first|exact dd|fail) only [go_sem,seval]
  · intro x _;simp (disch:=first|exact dd|fail) only [go_sem,seval]
  intro i hi
  by_cases hil : i = l.length
  · subst hil
    simp (disch:=first|exact dd|fail) only [go_sem,seval,hd]
  · have hil' : i < l.length:=by omega
    have hp : tR l i = .str (l.getD i []):=rfl
    generalize l.getD i [] = t at *
    simp (disch:=first|exact dd|fail) only [go_sem,seval,hd,hp]
    refine ⟨i + 1,hil',by show l.length - (i + 1) < l.length - i;omega, ?_, ?_⟩
    · simp (disch:=first|exact dd|fail) only [go_sem,seval,hd]
      try exact LeV.refl _
    · simp (disch:=first|exact dd|fail) only [go_sem,seval]
theorem book_SameClaim {c : Cl} (hc : c.ok) : C E 22 [clD c,clD c] (.bool true):=by
  refine CG_intro Tryz.func22 rfl (by kernel_rfl) rfl (by kernel_rfl) (by kernel_rfl) rfl ?_
  have hB:=book_SamePairs c.B (by have:=hc.B.1;omega)
  have hT:=book_SameTexts c.T (by have:=hc.T.1;omega)
  have hFl:=hc.F.1
  have hEl:=hc.E.1
  have hFd : fsD c.F = .ro false 1 c.F.length (fsR c.F):=rfl
  have hEd : esD c.E = .ro false 1 c.E.length (esR c.E):=rfl
  simp (disch:=first|exact dd|fail) only [go_sem,seval,clD,hFd,hEd]
  refine cA hB ?_
  simp (disch:=first|exact dd|fail) only [go_sem,seval]
  refine cA hT ?_
  simp (disch:=first|exact dd|fail) only [go_sem,seval]
  refine AL.of (fun i : Nat => i ≤ c.F.length) (fun i => c.F.length - i) (fun i => [(2, .ad 0 0),(3, .ad 1 0),(5, .int .i64 i)]) (fun _ => [(0, .var true 7 (clD c)),(1, .var true 7 (clD c))]) 0 (Nat.zero_le _) ?_ ?_ ?_ ?_
  · simp (disch:=first|exact dd|fail) only [go_sem,seval]
    try exact LeV.refl _
  · simp (disch:=first|exact dd|fail) only [go_sem,seval,clD,hFd,hEd]
    try exact LeV.refl _
  · intro x _;simp (disch:=first|exact dd|fail) only [go_sem,seval]
  intro i hi
  by_cases hil : i = c.F.length
  case neg =>
    have hp : fsR c.F i = tmD (c.F.getD i []):=rfl
    have ht:=hc.F.2 _ (getD_mem' c.F i [] (by omega))
    have hS:=book_SameTerms (c.F.getD i []) (by have:=ht.1;omega)
    generalize c.F.getD i [] = t at *
    simp (disch:=first|exact dd|fail) only [go_sem,seval,clD,hFd,hEd,hp]
    refine cL hS ?_
    simp (disch:=first|exact dd|fail) only [go_sem,seval]
    refine ⟨i + 1,by omega,by show c.F.length - (i + 1) < c.F.length - i;omega, ?_, ?_⟩
    · simp (disch:=first|exact dd|fail) only [go_sem,seval]
      try exact LeV.refl _
    · simp (disch:=first|exact dd|fail) only [go_sem,seval,clD,hFd,hEd]
      try exact LeV.refl _
  subst hil
  simp (disch:=first|exact dd|fail) only [go_sem,seval,clD,hFd,hEd]
  refine AL.of (fun i : Nat => i ≤ c.E.length) (fun i => c.E.length - i) (fun i => [(2, .ad 0 0),(3, .ad 1 0),(6, .int .i64 i)]) (fun _ => [(0, .var true 7 (clD c)),(1, .var true 7 (clD c))]) 0 (Nat.zero_le _) ?_ ?_ ?_ ?_
  · simp (disch:=first|exact dd|fail) only [go_sem,seval]
    try exact LeV.refl _
  · simp (disch:=first|exact dd|fail) only [go_sem,seval,clD,hFd,hEd]
    try exact LeV.refl _
  · intro x _;simp (disch:=first|exact dd|fail) only [go_sem,seval]
  intro i hi
  by_cases hil : i = c.E.length
  case neg =>
    have hp : esR c.E i = txD (c.E.getD i []):=rfl
    have ht:=hc.E.2 _ (getD_mem' c.E i [] (by omega))
    have hS:=book_SamePairs (c.E.getD i []) (by have:=ht.1;omega)
    generalize c.E.getD i [] = t at *
    simp (disch:=first|exact dd|fail) only [go_sem,seval,clD,hFd,hEd,hp]
    refine cL hS ?_
    simp (disch:=first|exact dd|fail) only [go_sem,seval]
    refine ⟨i + 1,by omega,by show c.E.length - (i + 1) < c.E.length - i;omega, ?_, ?_⟩
    · simp (disch:=first|exact dd|fail) only [go_sem,seval]
      try exact LeV.refl _
    · simp (disch:=first|exact dd|fail) only [go_sem,seval,clD,hFd,hEd]
      try exact LeV.refl _
  subst hil
  simp (disch:=first|exact dd|fail) only [go_sem,seval,clD,hFd,hEd]
theorem all_idx {α : Type} {l : List α} {f : α → Bool} (d : α) (h : ∀ j,j < l.length → f (l.getD j d) = true) : l.all f = true:=by
  rw [List.all_eq_true]
  intro t ht
  obtain ⟨j,hj,rfl⟩:=List.mem_iff_getElem.1 ht
  have:=h j (by omega)
  rw [List.getD_eq_getElem?_getD,List.getElem?_eq_getElem hj] at this
  exact this
theorem all_bad {α : Type} {l : List α} {f : α → Bool} (d : α) {i : Nat} (hi : i < l.length) (h : f (l.getD i d) = false) : l.all f = false:=by
  rw [List.all_eq_false]
  exact ⟨_,getD_mem' l i d hi,by rw [h];simp⟩
theorem upto_next {P : Nat → Prop} {i : Nat} (h : ∀ j,j < i → P j) (hi : P i) : ∀ j,j < i + 1 → P j:=fun j hj => by
  rcases Nat.lt_or_ge j i with h2 | h2
  · exact h j h2
  · rw [show j = i by omega];exact hi
theorem book_Short (l : List Txt) {m : Nat} (hm : m < 1000) (hl : l.length < 1000) : C E 40 [.int .i64 m,tlD l] (.bool (l.all fun t => decide (t.length ≤ m))):=by
  refine CG_intro Tryz.func40 rfl (by kernel_rfl) rfl (by kernel_rfl) (by kernel_rfl) rfl ?_
  have hd : tlD l = .ro false 1 l.length (tR l):=rfl
  simp (disch:=first|exact dd|fail) only [go_sem,seval,hd]
  refine AL.of (fun i : Nat => i ≤ l.length ∧ ∀ j,j < i → decide ((l.getD j []).length ≤ m) = true) (fun i => l.length - i) (fun i => [(0, .int .i64 m),(1,tlD l),(5, .int .i64 i)]) (fun _ => []) 0 ⟨Nat.zero_le _,fun j hj => absurd hj (by omega)⟩ ?_ ?_ ?_ ?_
  · simp (disch:=first|exact dd|fail) only [go_sem,seval,hd]
    try exact LeV.refl _
  · simp (disch:=first|exact dd|fail) only [go_sem,seval]
  · intro x _;simp (disch:=first|exact dd|fail) only [go_sem,seval]
  rintro i ⟨hi,hok⟩
  by_cases hil : i = l.length
  · subst hil
    rw [all_idx (f:=fun t => decide (t.length ≤ m)) [] hok]
    simp (disch:=first|exact dd|fail) only [go_sem,seval,hd]
  · have hp : tR l i = .str (l.getD i []):=rfl
    by_cases h1 : (l.getD i []).length ≤ m
    case neg =>
      rw [all_bad (f:=fun t => decide (t.length ≤ m)) [] (i:=i) (by omega) (decide_eq_false h1)]
      simp (disch:=first|exact dd|fail) only [go_sem,seval,hd,hp]
    have hx:=upto_next hok (decide_eq_true h1)
    generalize l.getD i [] = t at *
    simp (disch:=first|exact dd|fail) only [go_sem,seval,hd,hp]
    refine ⟨i + 1,⟨by omega,fun j hj => of_decide_eq_true (hx j hj)⟩,by show l.length - (i + 1) < l.length - i;omega, ?_, ?_⟩
    · simp (disch:=first|exact dd|fail) only [go_sem,seval,hd]
      try exact LeV.refl _
    · simp (disch:=first|exact dd|fail) only [go_sem,seval]
def lightB (c : Cl) (t e : Nat) : Bool:=decide (c.F.length ≤ 4) && pairsB c.B 4 && decide (c.R.1.length ≤ 30) && decide (c.R.2.length ≤ 30) && decide (c.T.length ≤ 9) && decide (c.E.length ≤ 9) && c.T.all (fun t => decide (t.length ≤ 30)) && c.F.all (fun f => termsB f t e) && c.E.all (fun x => pairsB x 4)
theorem book_Light {c : Cl} {t e : Nat} (ht : t < 1000) (he : e < 1000) : C E 13 [clD c, .int .i64 t, .int .i64 e] (.bool (lightB c t e)):=by
  refine CG_intro Tryz.func13 rfl (by kernel_rfl) rfl (by kernel_rfl) (by kernel_rfl) rfl ?_
  have hFd : fsD c.F = .ro false 1 c.F.length (fsR c.F):=rfl
  have hEd : esD c.E = .ro false 1 c.E.length (esR c.E):=rfl
  have hTd : tlD c.T = .ro false 1 c.T.length (tR c.T):=rfl
  have hP:=book_Pairs c.B (m:=4) (by omega)
  by_cases q1 : c.F.length ≤ 4
  case neg =>
    rw [show lightB c t e = false by unfold lightB;simp [q1]]
    simp (disch:=first|exact dd|fail) only [go_sem,seval,clD,hFd]
  cases q2 : pairsB c.B 4 with
  | false =>
    rw [show lightB c t e = false by unfold lightB;simp [q2]]
    rw [q2] at hP
    simp (disch:=first|exact dd|fail) only [go_sem,seval,clD,hFd]
    refine cA hP ?_
    simp (disch:=first|exact dd|fail) only [go_sem,seval]
  | true =>
    rw [q2] at hP
    by_cases q3 : c.R.1.length ≤ 30
    case neg =>
      rw [show lightB c t e = false by unfold lightB;simp [q3]]
      simp (disch:=first|exact dd|fail) only [go_sem,seval,clD,hFd]
      refine cA hP ?_
      simp (disch:=first|exact dd|fail) only [go_sem,seval]
    by_cases q4 : c.R.2.length ≤ 30
    case neg =>
      rw [show lightB c t e = false by unfold lightB;simp [q4]]
      simp (disch:=first|exact dd|fail) only [go_sem,seval,clD,hFd]
      refine cA hP ?_
      simp (disch:=first|exact dd|fail) only [go_sem,seval]
    by_cases q5 : c.T.length ≤ 9
    case neg =>
      rw [show lightB c t e = false by unfold lightB;simp [q5]]
      simp (disch:=first|exact dd|fail) only [go_sem,seval,clD,hFd,hTd]
      refine cA hP ?_
      simp (disch:=first|exact dd|fail) only [go_sem,seval]
    by_cases q6 : c.E.length ≤ 9
    case neg =>
      rw [show lightB c t e = false by unfold lightB;simp [q6]]
      simp (disch:=first|exact dd|fail) only [go_sem,seval,clD,hFd,hTd,hEd]
      refine cA hP ?_
      simp (disch:=first|exact dd|fail) only [go_sem,seval]
    have hS:=book_Short c.T (m:=30) (by omega) (by omega)
    cases q7 : c.T.all (fun t => decide (t.length ≤ 30)) with
    | false =>
      rw [show lightB c t e = false by unfold lightB;rw [q7];simp]
      rw [q7] at hS
      simp (disch:=first|exact dd|fail) only [go_sem,seval,clD,hFd,hTd,hEd]
      refine cA hP ?_
      simp (disch:=first|exact dd|fail) only [go_sem,seval]
      refine cA hS ?_
      simp (disch:=first|exact dd|fail) only [go_sem,seval]
    | true =>
      rw [q7] at hS
      have hL : lightB c t e = (c.F.all (fun f => termsB f t e) && c.E.all (fun x => pairsB x 4)):=by unfold lightB;rw [q2,q7];simp [q1,q3,q4,q5,q6]
      simp (disch:=first|exact dd|fail) only [go_sem,seval,clD,hFd,hTd,hEd]
      refine cA hP ?_
      simp (disch:=first|exact dd|fail) only [go_sem,seval]
      refine cA hS ?_
      simp (disch:=first|exact dd|fail) only [go_sem,seval]
      refine AL.of (fun i : Nat => i ≤ c.F.length ∧ ∀ j,j < i → termsB (c.F.getD j []) t e = true) (fun i => c.F.length - i) (fun i => [(1, .int .i64 t),(2, .int .i64 e),(3, .ad 0 0),(7, .int .i64 i)]) (fun _ => [(0, .var true 7 (clD c))]) 0 ⟨Nat.zero_le _,fun j hj => absurd hj (by omega)⟩ ?_ ?_ ?_ ?_
      · simp (disch:=first|exact dd|fail) only [go_sem,seval]
        try exact LeV.refl _
      · simp (disch:=first|exact dd|fail) only [go_sem,seval,clD,hFd,hTd,hEd]
        try exact LeV.refl _
      · intro x _;simp (disch:=first|exact dd|fail) only [go_sem,seval]
      rintro i ⟨hi,hok⟩
      by_cases hil : i = c.F.length
      case neg =>
        have hp : fsR c.F i = tmD (c.F.getD i []):=rfl
        have hM:=book_Terms (l:=c.F.getD i []) ht he
        cases h1 : termsB (c.F.getD i []) t e with
        | false =>
          rw [hL,all_bad (f:=fun f => termsB f t e) [] (i:=i) (by omega) h1]
          rw [h1] at hM
          simp (disch:=first|exact dd|fail) only [go_sem,seval,clD,hFd,hTd,hEd,hp]
          refine cA hM ?_
          simp (disch:=first|exact dd|fail) only [go_sem,seval]
        | true =>
          have hx:=upto_next hok h1
          rw [h1] at hM
          clear hL
          simp (disch:=first|exact dd|fail) only [go_sem,seval,clD,hFd,hTd,hEd,hp]
          refine cA hM ?_
          simp (disch:=first|exact dd|fail) only [go_sem,seval]
          refine ⟨i + 1,⟨by omega,hx⟩,by show c.F.length - (i + 1) < c.F.length - i;omega, ?_, ?_⟩
          · simp (disch:=first|exact dd|fail) only [go_sem,seval]
            try exact LeV.refl _
          · simp (disch:=first|exact dd|fail) only [go_sem,seval,clD,hFd,hTd,hEd]
            try exact LeV.refl _
      rw [hil] at hok
      rw [all_idx (f:=fun f => termsB f t e) [] hok,Bool.true_and] at hL
      clear hok
      subst hil
      simp (disch:=first|exact dd|fail) only [go_sem,seval,clD,hFd,hTd,hEd]
      refine AL.of (fun i : Nat => i ≤ c.E.length ∧ ∀ j,j < i → pairsB (c.E.getD j []) 4 = true) (fun i => c.E.length - i) (fun i => [(3, .ad 0 0),(8, .int .i64 i)]) (fun _ => [(0, .var true 7 (clD c))]) 0 ⟨Nat.zero_le _,fun j hj => absurd hj (by omega)⟩ ?_ ?_ ?_ ?_
      · simp (disch:=first|exact dd|fail) only [go_sem,seval]
        try exact LeV.refl _
      · simp (disch:=first|exact dd|fail) only [go_sem,seval,clD,hFd,hTd,hEd]
        try exact LeV.refl _
      · intro x _;simp (disch:=first|exact dd|fail) only [go_sem,seval]
      rintro i ⟨hi,hok⟩
      by_cases hil : i = c.E.length
      case neg =>
        have hp : esR c.E i = txD (c.E.getD i []):=rfl
        have hM:=book_Pairs (c.E.getD i []) (m:=4) (by omega)
        cases h1 : pairsB (c.E.getD i []) 4 with
        | false =>
          rw [hL,all_bad (f:=fun x => pairsB x 4) [] (i:=i) (by omega) h1]
          rw [h1] at hM
          simp (disch:=first|exact dd|fail) only [go_sem,seval,clD,hFd,hTd,hEd,hp]
          refine cA hM ?_
          simp (disch:=first|exact dd|fail) only [go_sem,seval]
        | true =>
          have hx:=upto_next hok h1
          rw [h1] at hM
          clear hL
          simp (disch:=first|exact dd|fail) only [go_sem,seval,clD,hFd,hTd,hEd,hp]
          refine cA hM ?_
          simp (disch:=first|exact dd|fail) only [go_sem,seval]
          refine ⟨i + 1,⟨by omega,hx⟩,by show c.E.length - (i + 1) < c.E.length - i;omega, ?_, ?_⟩
          · simp (disch:=first|exact dd|fail) only [go_sem,seval]
            try exact LeV.refl _
          · simp (disch:=first|exact dd|fail) only [go_sem,seval,clD,hFd,hTd,hEd]
            try exact LeV.refl _
      rw [hil] at hok
      rw [hL,all_idx (f:=fun x => pairsB x 4) [] hok]
      clear hok
      subst hil
      simp (disch:=first|exact dd|fail) only [go_sem,seval,clD,hFd,hTd,hEd]
theorem slc_list (e : Sh) {α : Type} (g : α → D) (dflt : α) (he : ∀ y,e.wf y → ∃ t,LeV (e.d y) (g t)) : ∀ (l : List e.T),(∀ y ∈ l,e.wf y) → ∃ L : List α,L.length = l.length ∧ ∀ i y,l[i]? = some y → LeV (e.d y) (g (L.getD i dflt))
  | [],h => ⟨[],rfl,fun i y hy => nomatch hy⟩
  | y :: l,h => by
    obtain ⟨t,h1⟩:=he y (h y List.mem_cons_self)
    obtain ⟨L,h3,h4⟩:=slc_list e g dflt he l fun z hz => h z (List.mem_cons_of_mem _ hz)
    refine ⟨t :: L,by rw [List.length_cons,List.length_cons,h3],fun i z hz => ?_⟩
    cases i with
    | zero =>
      have : some y = some z:=hz
      cases this
      exact h1
    | succ i => exact h4 i z hz
theorem slc_arg (e : Sh) {α : Type} (g : α → D) (dflt : α) (hcl : ∀ t,cl (g t) = true) (he : ∀ y,e.wf y → ∃ t,LeV (e.d y) (g t)) (x : Option (List e.T)) (w : Sh.wf (.slc e) x) : ∃ l : List α,LeV (Sh.d (.slc e) x) (.ro e.ag e.size l.length fun i => g (l.getD i dflt)):=by
  cases x with
  | none => exact ⟨[],LeV.nils⟩
  | some l =>
    obtain ⟨L,h1,h2⟩:=slc_list e g dflt he l w.2
    refine ⟨L,LeV.ro h1.symm fun i hi => Le.ofV (hcl _) ?_⟩
    split
    · rename_i y hy
      exact h2 i y hy
    · rename_i hy
      have hz : l[i]? = some l[i]:=List.getElem?_eq_getElem hi
      have : none = some l[i]:=hy.symm.trans hz
      cases this
abbrev shPr : Sh:=.st (.cons .str (.cons .str .nil))
abbrev shClaim : Sh:=.st (.cons (.int .i64) (.cons (.slc (.slc shTerm)) (.cons (.slc shPr) (.cons shPr (.cons (.slc .str) (.cons (.slc (.slc shPr)) .nil))))))
theorem txs_arg (x : Option (List (List UInt8 × List UInt8 × Unit))) (w : Sh.wf (.slc shPr) x) : ∃ l : List (Txt × Txt),LeV (Sh.d (.slc shPr) x) (txD l):=
  slc_arg shPr (fun p : Txt × Txt => .agg [.str p.1, .str p.2]) ([],[]) (fun t => rfl) (fun y _ => ⟨(y.1,y.2.1),LeV.refl _⟩) x w
theorem claim_arg (y : Sh.T shClaim) (w : Sh.wf shClaim y) : ∃ c : Cl,LeV (Sh.d shClaim y) (clD c) ∧ I6 c.k:=by
  obtain ⟨k,F,B,⟨r1,r2,u⟩,T,E,u2⟩:=y
  obtain ⟨w1,w2,w3,w4,w5,w6,w7⟩:=w
  have hd : Sh.d shClaim (k,F,B,(r1,r2,u),T,E,u2) = .agg [.int .i64 k,Sh.d (.slc (.slc shTerm)) F,Sh.d (.slc shPr) B, .str r1, .str r2,Sh.d (.slc .str) T,Sh.d (.slc (.slc shPr)) E]:=by
    cases F <;> cases B <;> cases T <;> cases E <;> rfl
  rw [hd]
  obtain ⟨F',hF⟩:=slc_arg (.slc shTerm) tmD [] (fun t => rfl) (fun y wy => by
    obtain ⟨l,h1,_⟩:=terms_arg y wy
    exact ⟨l,h1⟩) F w2
  obtain ⟨B',hB⟩:=txs_arg B w3
  obtain ⟨T',hT⟩:=slc_arg .str (fun t : Txt => .str t) [] (fun t => rfl) (fun y _ => ⟨y,LeV.refl _⟩) T w5
  obtain ⟨E',hE⟩:=slc_arg (.slc shPr) txD [] (fun t => rfl) (fun y wy => txs_arg y wy) E w6
  exact ⟨⟨k,F',B',(r1,r2),T',E'⟩,LeV.agg (LesV.cons (LeV.refl _) (LesV.cons hF (LesV.cons hB (LesV.cons (LeV.refl _) (LesV.cons (LeV.refl _) (LesV.cons hT (LesV.cons hE LesV.nil))))))),bounds_i64 w1⟩
theorem pairsB_shB {l : List (Txt × Txt)} {m : Nat} (h : pairsB l m = true) (hm : m < 1000) : shB l:=by
  unfold pairsB at h
  simp only [Bool.and_eq_true,decide_eq_true_eq,List.all_eq_true] at h
  refine ⟨by omega,fun p hp => ?_⟩
  have:=h.2 p hp
  exact ⟨by unfold shT;omega,by unfold shT;omega⟩
theorem termsB_shP {l : List Tm} {m e : Nat} (h : termsB l m e = true) (hm : m < 1000) : shP l:=by
  unfold termsB termB at h
  simp only [Bool.and_eq_true,decide_eq_true_eq,List.all_eq_true] at h
  refine ⟨by omega,fun p hp => ?_⟩
  have:=(h.2 p hp).1.1.1
  unfold shT;omega
theorem light_ok {c : Cl} {t e : Nat} (hk : I6 c.k) (ht : t < 1000) (h : lightB c t e = true) : c.ok:=by
  unfold lightB at h
  simp only [Bool.and_eq_true,decide_eq_true_eq,List.all_eq_true] at h
  obtain ⟨⟨⟨⟨⟨⟨⟨⟨h1,h2⟩,h3⟩,h4⟩,h5⟩,h6⟩,h7⟩,h8⟩,h9⟩:=h
  exact ⟨hk,⟨by omega,fun x hx => termsB_shP (h8 x hx) ht⟩,pairsB_shB h2 (by omega),⟨by unfold shT;omega,by unfold shT;omega⟩,⟨by omega,fun x hx => by have:=h7 x hx;unfold shT;omega⟩,⟨by omega,fun x hx => pairsB_shB (h9 x hx) (by omega)⟩⟩
def Stn (b : List UInt8) (a : Nat) (w : List UInt8) : Prop:=∃ x r,b = x ++ (w ++ r) ∧ x.length = a
theorem Stn.app {b u w : List UInt8} {a : Nat} (h : Stn b a (u ++ w)) : Stn b a u ∧ Stn b (a + u.length) w:=by
  obtain ⟨x,r,rfl,hx⟩:=h
  exact ⟨⟨x,w ++ r,by rw [List.append_assoc],hx⟩,⟨x ++ u,r,by simp only [List.append_assoc],by rw [List.length_append,hx]⟩⟩
theorem Stn.len {b w : List UInt8} {a : Nat} (h : Stn b a w) : a + w.length ≤ b.length:=by
  obtain ⟨x,r,rfl,hx⟩:=h
  rw [List.length_append,List.length_append,hx];omega
theorem Stn.get {b w : List UInt8} {a : Nat} {c : UInt8} (h : Stn b a (c :: w)) : b.getD a 0 = c:=by
  obtain ⟨x,r,rfl,hx⟩:=h
  rw [List.getD_eq_getElem?_getD,List.getElem?_append_right (by omega),hx,Nat.sub_self]
  rfl
theorem Stn.cut {b w : List UInt8} {a : Nat} (h : Stn b a w) : (b.take (a + w.length)).drop a = w:=by
  obtain ⟨x,r,rfl,rfl⟩:=h
  rw [← List.append_assoc,show x.length + w.length = (x ++ w).length by rw [List.length_append],List.take_left',List.drop_left']
  · rfl
  · rfl
theorem Stn.tail {b w : List UInt8} {a : Nat} {c : UInt8} (h : Stn b a (c :: w)) : Stn b (a + 1) w:=(Stn.app (u:=[c]) h).2
theorem vgo_at {b : List UInt8} {a : Nat} : ∀ (f i v u : Nat),f + i = 10 → Stn b (a + i) (vput u) → v + 2 ^ (7 * i) * u < 18446744073709551616 → (i = 0 ∨ 0 < u) → vgo b a i v f = (v + 2 ^ (7 * i) * u,a + i + (vput u).length,0)
  | 0,i,v,u,hf,hA,hv,h0 => by
    exfalso
    obtain rfl : i = 10:=by omega
    have h1 : 2 ^ (7 * 10) * 1 ≤ 2 ^ (7 * 10) * u:=Nat.mul_le_mul_left _ (by omega)
    have h2 : (2 : Nat) ^ (7 * 10) * 1 = 1180591620717411303424:=by decide
    omega
  | f + 1,i,v,u,hf,hA,hv,h0 => by
    have h9 : ∀ k,i = 9 → k ≤ u → 9223372036854775808 * k ≤ 18446744073709551615:=fun k e hk => by
      subst e
      have h1 : 2 ^ (7 * 9) * k ≤ 2 ^ (7 * 9) * u:=Nat.mul_le_mul_left _ hk
      have h2 : (2 : Nat) ^ (7 * 9) = 9223372036854775808:=by decide
      rw [h2] at h1 hv
      omega
    have hlen:=hA.len
    rw [vgo]
    by_cases hu : u < 128
    · rw [vput_lt hu] at hA hlen ⊢
      simp only [List.length_singleton] at hlen ⊢
      have hg:=hA.get
      have hn : (b.getD (a + i) 0).toNat = u:=by rw [hg,UInt8.toNat_ofNat'];omega
      rw [hn,if_neg (by omega),if_neg (by
        rintro (⟨e,h⟩ | ⟨e,h⟩)
        · have:=h9 2 e (by omega);omega
        · omega),if_pos hu,Nat.mod_eq_of_lt hu]
    · rw [vput_ge hu] at hA hlen ⊢
      simp only [List.length_cons] at hlen ⊢
      have hg:=hA.get
      have hn : (b.getD (a + i) 0).toNat = u % 128 + 128:=by rw [hg,UInt8.toNat_ofNat'];omega
      have e1 : v + 2 ^ (7 * i) * (u % 128) + 2 ^ (7 * (i + 1)) * (u / 128) = v + 2 ^ (7 * i) * u:=by
        rw [show 7 * (i + 1) = 7 * i + 7 by omega,Nat.pow_add]
        generalize 2 ^ (7 * i) = p
        rw [show (2 : Nat) ^ 7 = 128 by decide,Nat.add_assoc,Nat.mul_assoc,← Nat.mul_add,Nat.mod_add_div]
      rw [hn,if_neg (by omega),if_neg (by
        rintro (⟨e,h⟩ | ⟨e,h⟩)
        · have:=h9 128 e (by omega);omega
        · omega),if_neg (by omega),Nat.add_mod_right,Nat.mod_mod,vgo_at f (i + 1) (v + 2 ^ (7 * i) * (u % 128)) (u / 128) (by omega) hA.tail (by rw [e1];exact hv) (.inr (by omega)),e1]
      rw [show a + (i + 1) + (vput (u / 128)).length = a + i + ((vput (u / 128)).length + 1) by omega]
theorem vget_at {b : List UInt8} {a u : Nat} (h : Stn b a (vput u)) (hu : u < 18446744073709551616) : vget b (a : Int) = (u,a + (vput u).length,0):=by
  have hl:=h.len
  unfold vget
  rw [if_neg (by omega),Int.toNat_natCast,vgo_at 10 0 0 u rfl h (by simpa using hu) (.inl rfl)]
  simp
theorem valB_range (n : Nat) : ∀ k : Nat,valB ((List.range k).map fun j => UInt8.ofNat (n / 256 ^ (k - 1 - j) % 256)) = n % 256 ^ k
  | 0 => by simp [valB,Nat.mod_one]
  | k + 1 => by
    rw [List.range_succ_eq_map,List.map_cons,List.map_map,valB,List.length_map,List.length_range,Nat.mod_pow_succ,show k + 1 - 1 - 0 = k by omega]
    have hf : ((fun j => UInt8.ofNat (n / 256 ^ (k + 1 - 1 - j) % 256)) ∘ Nat.succ) = fun j => UInt8.ofNat (n / 256 ^ (k - 1 - j) % 256):=by
      funext j
      show UInt8.ofNat (n / 256 ^ (k + 1 - 1 - (j + 1)) % 256) = _
      rw [show k + 1 - 1 - (j + 1) = k - 1 - j by omega]
    rw [hf,valB_range n k,UInt8.toNat_ofNat',Nat.mod_eq_of_lt (show n / 256 ^ k % 256 < 2 ^ 8 from Nat.mod_lt _ (by omega)),Nat.mul_comm,Nat.add_comm]
theorem nby_lt (n : Nat) : n < 256 ^ nby n:=by
  rw [show (256 : Nat) = 2 ^ 8 from rfl,← Nat.pow_mul]
  exact nbit_lt.1 (by unfold nby;omega)
theorem valB_natB (n : Nat) : valB (natB n) = n:=by
  unfold natB
  rw [valB_range,Nat.mod_eq_of_lt (nby_lt n)]
theorem zhd_natB (n : Nat) : zhd (natB n) = false:=by
  unfold zhd
  refine decide_eq_false fun h => ?_
  obtain ⟨h1,h2⟩:=h
  rw [natB_len] at h1
  have hn : n ≠ 0:=fun e => by subst e;revert h1;decide
  have hb : 2 ^ (nbit n - 1) ≤ n:=nbit_ge hn
  have hp:=nbit_pos (n:=n) (by omega)
  have h3 : 256 ^ (nby n - 1) ≤ n:=by
    refine Nat.le_trans ?_ hb
    rw [show (256 : Nat) = 2 ^ 8 from rfl,← Nat.pow_mul]
    exact Nat.pow_le_pow_right (by omega) (by unfold nby at h1 ⊢;omega)
  have h4 : n / 256 ^ (nby n - 1) < 256:=by
    have:=nby_lt n
    refine Nat.div_lt_of_lt_mul ?_
    rw [← Nat.pow_succ,show (nby n - 1).succ = nby n by omega]
    exact this
  have h5 : 1 ≤ n / 256 ^ (nby n - 1):=(Nat.one_le_div_iff (Nat.pow_pos (by omega))).2 h3
  have h6 : (natB n).getD 0 0 = UInt8.ofNat (n / 256 ^ (nby n - 1) % 256):=by
    unfold natB
    rw [List.getD_eq_getElem?_getD,List.getElem?_map,List.getElem?_range h1]
    rfl
  rw [h6,UInt8.toNat_ofNat'] at h2
  omega
theorem zget_at {b : List UInt8} {a : Nat} {z bits : Int} (h : Stn b a (zB z)) (h1 : nbit z.natAbs ≤ (max bits 0).toNat) (h2 : nbit z.natAbs < 1000000000) : zget b (a : Int) bits = (z,a + (zB z).length,0):=by
  unfold zB at h ⊢
  obtain ⟨hv,hn⟩:=h.app
  have hl:=hn.len
  have hc:=hn.cut
  rw [natB_len] at hl hc
  rw [List.length_append,natB_len]
  have e1 : (2 * nby z.natAbs + if z < 0 then 1 else 0) / 2 = nby z.natAbs:=by split <;> omega
  have e2 : (decide ((2 * nby z.natAbs + if z < 0 then 1 else 0) % 2 = 1)) = decide (z < 0):=by
    by_cases q : z < 0
    · rw [if_pos q,decide_eq_true q,decide_eq_true (by omega)]
    · rw [if_neg q,decide_eq_false q,decide_eq_false (by omega)]
  have e3 : (2 * nby z.natAbs + if z < 0 then 1 else 0) ≠ 1:=by
    by_cases q : z < 0
    · have:=nbit_pos (n:=z.natAbs) (by omega)
      rw [if_pos q]
      unfold nby
      omega
    · rw [if_neg q];omega
  have hvg:=vget_at hv (by unfold nby;split <;> omega)
  have hz : mkZ (decide (z < 0)) z.natAbs = z:=by
    unfold mkZ
    by_cases q : z < 0
    · rw [if_pos (decide_eq_true q)];omega
    · rw [if_neg (by simp [q])];omega
  generalize (2 * nby z.natAbs + if z < 0 then 1 else 0) = w at *
  unfold zget
  rw [hvg]
  simp only
  rw [e1,e2,hc,zhd_natB,valB_natB,if_neg (by simp),if_neg (by unfold nby;omega),if_neg (by omega),if_neg (by simp [e3]),if_neg (by omega),hz,Nat.add_assoc]
theorem qget_at {b : List UInt8} {a : Nat} {q : Rat} {bits : Int} (h : Stn b a (qB q)) (h1 : nbit q.num.natAbs ≤ (max bits 0).toNat) (h2 : nbit q.den ≤ (max bits 0).toNat) (h3 : nbit q.num.natAbs < 1000000000) (h4 : nbit q.den < 1000000000) : qget b (a : Int) bits = (q,a + (qB q).length,0):=by
  unfold qB at h ⊢
  obtain ⟨hn,hd⟩:=h.app
  have z1:=zget_at hn h1 h3
  have z2:=zget_at hd (by rw [Int.natAbs_natCast];exact h2) (by rw [Int.natAbs_natCast];exact h4)
  have hden:=q.den_pos
  have hg : Nat.gcd q.den q.num.natAbs = 1:=by rw [Nat.gcd_comm];exact q.reduced
  unfold qget
  rw [z1]
  simp only
  rw [z2]
  simp only
  rw [if_neg (by simp),if_neg (by simp),Int.natAbs_natCast,if_neg (by rw [hg];omega),List.length_append,Nat.add_assoc,Rat.mkRat_self]
def fitQ (bits : Int) (q : Rat) : Prop:=(nbit q.num.natAbs ≤ (max bits 0).toNat ∧ nbit q.den ≤ (max bits 0).toNat) ∧ nbit q.num.natAbs < 1000000000 ∧ nbit q.den < 1000000000
def fitP (bits : Int) (p : Rat × Rat) : Prop:=fitQ bits p.1 ∧ fitQ bits p.2
theorem raF_at {b : Txt} {bits : Int} {a : Nat} {q : Rat} (h : Stn b a (qB q)) (hf : fitQ bits q) : raF b bits (a,0) = (decQ q,(a + (qB q).length,0)):=by
  unfold raF
  rw [if_neg (by simp),qget_at h hf.1.1 hf.1.2 hf.2.1 hf.2.2]
theorem prF_at {b : Txt} {bits : Int} {a : Nat} {p : Rat × Rat} (h : Stn b a (sB p)) (hf : fitP bits p) : prF b bits (a,0) = (plQ p,(a + (sB p).length,0)):=by
  unfold sB at h ⊢
  obtain ⟨h1,h2⟩:=h.app
  unfold prF
  rw [raF_at h1 hf.1]
  simp only
  rw [raF_at h2 hf.2,List.length_append,Nat.add_assoc]
  rfl
theorem bxG_at {b : Txt} {bits : Int} : ∀ (l : List (Rat × Rat)) (acc : List (Txt × Txt)) (a : Nat),Stn b a (bxBy l) → (∀ p ∈ l,fitP bits p) → bxG b bits l.length acc (a,0) = (acc ++ l.map plQ,(a + (bxBy l).length,0))
  | [],acc,a,h,hf => by simp [bxG,bxBy]
  | p :: l,acc,a,h,hf => by
    have e : bxBy (p :: l) = sB p ++ bxBy l:=rfl
    rw [e] at h ⊢
    obtain ⟨h1,h2⟩:=h.app
    rw [List.length_cons,bxG,if_neg (by simp),prF_at h1 (hf p List.mem_cons_self)]
    simp only
    rw [bxG_at l _ _ h2 fun x hx => hf x (List.mem_cons_of_mem _ hx),List.length_append,Nat.add_assoc,List.append_assoc]
    rfl
theorem tmF_at {b : Txt} {bits : Int} {a : Nat} {t : Pt} (h : Stn b a (tB t)) (hf : fitQ bits t.2) : tmF b bits (a,0) = ((t.1,decQ t.2),(a + (tB t).length,0)):=by
  obtain ⟨⟨x,y,z⟩,q⟩:=t
  have hl:=h.len
  unfold tB mB at h hl ⊢
  obtain ⟨h1,h2⟩:=h.app
  have g1:=h1.get
  have g2:=h1.tail.get
  have g3:=h1.tail.tail.get
  simp only [List.length_append,List.length_cons,List.length_nil] at hl h2 ⊢
  rw [tmF_long (by omega),g1,g2,g3,show a + 3 = a + (0 + 1 + 1 + 1) by omega,qget_at h2 hf.1.1 hf.1.2 hf.2.1 hf.2.2,Nat.add_assoc]
def tmQ (t : Pt) : Tm:=(t.1,decQ t.2)
theorem plG_at {b : Txt} {bits : Int} : ∀ (l : List Pt) (acc : List Tm) (a : Nat),Stn b a (tsB l) → (∀ p ∈ l,fitQ bits p.2) → plG b bits l.length acc (a,0) = (acc ++ l.map tmQ,(a + (tsB l).length,0))
  | [],acc,a,h,hf => by simp [plG,tsB]
  | p :: l,acc,a,h,hf => by
    have e : tsB (p :: l) = tB p ++ tsB l:=rfl
    rw [e] at h ⊢
    obtain ⟨h1,h2⟩:=h.app
    rw [List.length_cons,plG,if_neg (by simp),tmF_at h1 (hf p List.mem_cons_self)]
    simp only
    rw [plG_at l _ _ h2 fun x hx => hf x (List.mem_cons_of_mem _ hx),List.length_append,Nat.add_assoc,List.append_assoc]
    rfl
theorem pV_text {l : List Tm} (h : okPl l = true) : (pV l).map tmQ = l:=by
  unfold pV
  rw [List.map_map]
  conv => rhs;rw [← List.map_id l]
  refine List.map_congr_left fun t ht => ?_
  obtain ⟨i,hi,rfl⟩:=List.mem_iff_getElem.1 ht
  unfold okPl at h
  have h1:=List.all_eq_true.1 h i (List.mem_range.2 hi)
  unfold okT at h1
  have e : l.getD i tm0 = l[i]:=by rw [List.getD_eq_getElem?_getD,List.getElem?_eq_getElem hi];rfl
  rw [e] at h1
  generalize l[i] = t at *
  obtain ⟨m,s⟩:=t
  simp only at h1
  cases hr : rpO s with
  | none => rw [hr] at h1;simp at h1
  | some q =>
    show ((m,decQ ((rpO s).getD 0)) : Tm) = (m,s)
    rw [hr,Option.getD_some,rpO_text hr]
theorem plF_at {b : Txt} {T bits : Int} {a : Nat} {l : List Tm} (hp : plOk l = true) (h : Stn b a (plB (pV l))) (hf : ∀ p ∈ pV l,fitQ bits p.2) (hT : (l.length : Int) ≤ max T 0) (hl : l.length < 1000000) : plF b T bits (a,0) = (l,(a + (plB (pV l)).length,0)):=by
  have ho : okPl l = true:=by unfold plOk at hp;simp at hp;exact hp.1
  unfold plB at h ⊢
  obtain ⟨h1,h2⟩:=h.app
  have hv:=vget_at h1 (by rw [pV_len];omega)
  have hs : plS b T a = (a + (vput (pV l).length).length,0):=by
    unfold plS
    rw [hv]
    simp only
    rw [if_neg (by rw [pV_len];rintro ⟨_,x⟩;omega)]
  unfold plF
  rw [if_neg (by simp)]
  simp only
  rw [hs,hv]
  simp only
  rw [plG_at (pV l) [] _ h2 hf,List.nil_append,pV_text ho,frm_ok hp,List.length_append,Nat.add_assoc]
theorem byF_one {b : Txt} {a n : Nat} (h : Stn b a [UInt8.ofNat n]) (hn : n < 256) : byF b (a,0) = (n,(a + 1,0)):=by
  have hl:=h.len
  rw [byF_at (by rw [List.length_singleton] at hl;omega),h.get,UInt8.toNat_ofNat',Nat.mod_eq_of_lt (by omega)]
theorem cnF_at {b : Txt} {a n lo hi : Nat} (h : Stn b a [UInt8.ofNat n]) (hn : n < 256) (h1 : lo ≤ n) (h2 : n ≤ hi) : cnF b lo hi (a,0) = (n,(a + 1,0)):=by
  unfold cnF
  rw [byF_one h hn,if_neg (by simp),if_neg (by simp only;omega)]
theorem psG_at {b : Txt} {l : Lm} : ∀ (F : List (List Tm)) (acc : List (List Tm)) (a : Nat),Stn b a (fsB (F.map pV)) → (∀ t ∈ F,plOk t = true ∧ (∀ p ∈ pV t,fitQ l.b p.2) ∧ (t.length : Int) ≤ max l.t 0 ∧ t.length < 1000000) → psG b l F.length acc (a,0) = (acc ++ F,(a + (fsB (F.map pV)).length,0))
  | [],acc,a,h,hf => by simp [psG,fsB]
  | t :: F,acc,a,h,hf => by
    have e : fsB ((t :: F).map pV) = plB (pV t) ++ fsB (F.map pV):=rfl
    rw [e] at h ⊢
    obtain ⟨h1,h2⟩:=h.app
    obtain ⟨f1,f2,f3,f4⟩:=hf t List.mem_cons_self
    rw [List.length_cons,psG,plF_at f1 h1 f2 f3 f4]
    simp only
    rw [psG_at F _ _ h2 fun x hx => hf x (List.mem_cons_of_mem _ hx),List.length_append,Nat.add_assoc,List.append_assoc]
    rfl
theorem tsG_at {b : Txt} {bits : Int} : ∀ (T : List Txt) (acc : List Txt) (a : Nat),Stn b a (qsB (tV T)) → (∀ t ∈ T,∃ q,rpO t = some q ∧ fitQ bits q) → tsG b bits T.length acc (a,0) = (acc ++ T,(a + (qsB (tV T)).length,0))
  | [],acc,a,h,hf => by simp [tsG,qsB,tV]
  | t :: T,acc,a,h,hf => by
    have e : qsB (tV (t :: T)) = qB ((rpO t).getD 0) ++ qsB (tV T):=rfl
    rw [e] at h ⊢
    obtain ⟨h1,h2⟩:=h.app
    obtain ⟨q,f1,f2⟩:=hf t List.mem_cons_self
    rw [f1,Option.getD_some] at h1 h2 ⊢
    rw [List.length_cons,tsG,raF_at h1 f2]
    simp only
    rw [tsG_at T _ _ h2 fun x hx => hf x (List.mem_cons_of_mem _ hx),List.length_append,Nat.add_assoc,List.append_assoc,rpO_text f1]
    rfl
theorem bxF_at {b : Txt} {bits : Int} {a : Nat} {B : List (Txt × Txt)} (h0 : (boxR B).2 = 0) (h : Stn b a (bxBy (boxR B).1)) (hf : ∀ p ∈ (boxR B).1,fitP bits p) : bxF b bits (boxR B).1.length (a,0) = (B,(a + (bxBy (boxR B).1).length,0)):=by
  unfold bxF
  rw [bxG_at _ [] a h hf,List.nil_append,boxR_text h0]
  exact frm_ok (ok:=fun l => decide ((boxR l).2 = 0)) (decide_eq_true h0)
theorem esG_at {b : Txt} {bits : Int} {n : Nat} : ∀ (E : List (List (Txt × Txt))) (acc : List (List (Txt × Txt))) (a : Nat),Stn b a (esB (eV E)) → (∀ e ∈ E,(boxR e).2 = 0 ∧ (boxR e).1.length = n ∧ ∀ p ∈ (boxR e).1,fitP bits p) → esG b bits n E.length acc (a,0) = (acc ++ E,(a + (esB (eV E)).length,0))
  | [],acc,a,h,hf => by simp [esG,esB,eV]
  | t :: T,acc,a,h,hf => by
    have e : esB (eV (t :: T)) = bxBy (boxR t).1 ++ esB (eV T):=rfl
    rw [e] at h ⊢
    obtain ⟨h1,h2⟩:=h.app
    obtain ⟨f1,f2,f3⟩:=hf t List.mem_cons_self
    have hb:=bxF_at f1 h1 f3
    rw [f2] at hb
    rw [List.length_cons,esG,hb]
    simp only
    rw [esG_at T _ _ h2 fun x hx => hf x (List.mem_cons_of_mem _ hx),List.length_append,Nat.add_assoc,List.append_assoc]
    rfl
theorem spR_text {a b : Txt} (h : (spR a b).2 = 0) : plQ (spR a b).1 = (a,b):=by
  revert h
  unfold spR
  cases ha : rpO a with
  | none => intro h;exact absurd h (show ¬ (2 : Int) = 0 by decide)
  | some x =>
    cases hb : rpO b with
    | none => intro h;exact absurd h (show ¬ (2 : Int) = 0 by decide)
    | some y =>
      simp only
      split
      · intro h;exact absurd h (by decide)
      · intro _
        unfold plQ
        rw [rpO_text ha,rpO_text hb]
structure fitC (l : Lm) (c : Cl) : Prop where
  B : ∀ p ∈ (boxR c.B).1,fitP l.b p
  F : ∀ t ∈ c.F,(∀ p ∈ pV t,fitQ l.b p.2) ∧ (t.length : Int) ≤ max l.t 0 ∧ t.length < 1000000
  R : c.k = 2 → fitP l.b (spR c.R.1 c.R.2).1
  T : ∀ t ∈ c.T,∀ q,rpO t = some q → fitQ l.b q
  E : ∀ e ∈ c.E,∀ p ∈ (boxR e).1,fitP l.b p
theorem okTs_T {n : Nat} {T : List Txt} {E : List (List (Txt × Txt))} (h : okTs n T E = true) : ∀ t ∈ T,∃ q,rpO t = some q:=fun t ht => by
  obtain ⟨i,hi,rfl⟩:=List.mem_iff_getElem.1 ht
  unfold okTs at h
  have h1:=List.all_eq_true.1 h i (List.mem_range.2 hi)
  unfold okTi at h1
  rw [List.getD_eq_getElem?_getD,List.getElem?_eq_getElem hi,Option.getD_some] at h1
  cases hd : dpO T[i] with
  | none => rw [hd] at h1;simp at h1
  | some q => exact ⟨q,(dpO_rp hd).1⟩
theorem okTs_E {n : Nat} {T : List Txt} {E : List (List (Txt × Txt))} (h : okTs n T E = true) (hl : E.length = T.length) : ∀ e ∈ E,(boxR e).2 = 0 ∧ (boxR e).1.length = n:=fun t ht => by
  obtain ⟨i,hi,rfl⟩:=List.mem_iff_getElem.1 ht
  unfold okTs at h
  have h1:=List.all_eq_true.1 h i (List.mem_range.2 (by omega))
  unfold okTi at h1
  simp only [Bool.and_eq_true,decide_eq_true_eq] at h1
  have e : E.getD i [] = E[i]:=by rw [List.getD_eq_getElem?_getD,List.getElem?_eq_getElem hi];rfl
  rw [e] at h1
  exact ⟨h1.1.2,h1.2⟩
theorem clF_at {b : Txt} {l : Lm} {a : Nat} {c : Cl} (hc : c.ok) (ho : opnB c = true) (hf : fitC l c) (h : Stn b a (clB c)) : clF b l (a,0) = (c,(a + (clB c).length,0)):=by
  obtain ⟨o1,o2,o3,o4,o5,o6,o7,o8⟩:=opn_facts ho
  have hbl:=boxR_ok o1
  have hrk : rOK c = true ∧ tOK (boxR c.B).1.length c = true:=by
    have:=ho
    unfold opnB at this
    simp only [Bool.and_eq_true] at this
    exact ⟨this.1.2,this.2⟩
  have hlen : (clB c).length = (clB c).length:=rfl
  conv at hlen => rhs;unfold clB hdB
  unfold clB hdB at h
  obtain ⟨h,ht⟩:=h.app
  obtain ⟨h,hr⟩:=h.app
  obtain ⟨h,hF⟩:=h.app
  obtain ⟨h,hm⟩:=h.app
  obtain ⟨h,hB⟩:=h.app
  obtain ⟨h,hn⟩:=Stn.app (u:=[UInt8.ofNat c.k.toNat]) h
  simp only [List.length_append,List.length_cons,List.length_nil] at hB hm hF hr ht hn hlen
  have e1 : cF1 b (a,0) = (c.k.toNat,(a + 1,0)):=cnF_at h (by omega) (by omega) (by omega)
  have e2 : cF2 b (a,0) = ((boxR c.B).1.length,(a + 1 + 1,0)):=by
    unfold cF2
    rw [e1]
    exact cnF_at hn (by omega) (by omega) (by omega)
  have e3 : cF3 b l (a,0) = (c.B,(a + 1 + 1 + (bxBy (boxR c.B).1).length,0)):=by
    unfold cF3
    rw [e2]
    exact bxF_at o1 hB hf.B
  have e4 : cF4 b l (a,0) = (c.F.length,(a + 1 + 1 + (bxBy (boxR c.B).1).length + 1,0)):=by
    unfold cF4
    rw [e3]
    exact cnF_at (by rw [show a + 1 + 1 + (bxBy (boxR c.B).1).length = a + (0 + 1 + 1 + (bxBy (boxR c.B).1).length) by omega];exact hm) (by omega) o6 o5
  have e5 : cF5 b l (a,0) = (c.F,(a + 1 + 1 + (bxBy (boxR c.B).1).length + 1 + (fsB (c.F.map pV)).length,0)):=by
    unfold cF5
    rw [e4]
    refine psG_at c.F [] _ (by rw [show a + 1 + 1 + (bxBy (boxR c.B).1).length + 1 = a + (0 + 1 + 1 + (bxBy (boxR c.B).1).length + (0 + 1)) by omega];exact hF) fun t ht => ?_
    have h1:=List.all_eq_true.1 (show c.F.all (okF (boxR c.B).1.length) = true from o4) t ht
    unfold okF at h1
    simp only [Bool.and_eq_true] at h1
    exact ⟨h1.1,hf.F t ht⟩
  generalize hp5 : a + 1 + 1 + (bxBy (boxR c.B).1).length + 1 + (fsB (c.F.map pV)).length = p5 at e5
  have q5 : a + (0 + 1 + 1 + (bxBy (boxR c.B).1).length + (0 + 1) + (fsB (c.F.map pV)).length) = p5:=by omega
  rw [q5] at hr
  have hck : ((c.k.toNat : Nat) : Int) = c.k:=by omega
  obtain ⟨k,F,B,R,T,E⟩:=c
  simp only at *
  have e6 : cF6 b l (a,0) = (R,(p5 + (if k = 2 then sB (clR ⟨k,F,B,R,T,E⟩) else []).length,0)):=by
    unfold cF6
    rw [e1,e5]
    simp only
    by_cases k2 : k = 2
    · rw [if_pos (by omega),if_pos k2]
      rw [if_pos k2] at hr
      have hcr : clR ⟨k,F,B,R,T,E⟩ = (spR R.1 R.2).1:=by unfold clR;rw [if_pos k2]
      rw [hcr] at hr ⊢
      rw [prF_at hr (hf.R k2),spR_text (o8 k2)]
    · rw [if_neg (by omega),if_neg k2]
      have hrr:=hrk.1
      unfold rOK at hrr
      rw [if_neg (by exact k2)] at hrr
      simp at hrr
      obtain ⟨R1,R2⟩:=R
      simp only at hrr
      rw [hrr.1,hrr.2]
      rfl
  generalize hp6 : p5 + (if k = 2 then sB (clR ⟨k,F,B,R,T,E⟩) else []).length = p6 at e6
  have q6 : a + (0 + 1 + 1 + (bxBy (boxR B).1).length + (0 + 1) + (fsB (F.map pV)).length + (if k = 2 then sB (clR ⟨k,F,B,R,T,E⟩) else []).length) = p6:=by omega
  rw [q6] at ht
  have hto:=hrk.2
  unfold tOK at hto
  unfold clF
  by_cases k5 : k = 5
  · rw [if_pos k5] at ht hlen hto
    unfold okTE at hto
    simp only [Bool.and_eq_true,decide_eq_true_eq] at hto
    obtain ⟨⟨⟨⟨t1,t2⟩,t3⟩,t4⟩,t5⟩:=hto
    obtain ⟨ht,hE⟩:=ht.app
    obtain ⟨hn7,hT⟩:=ht.app
    simp only [List.length_append,List.length_cons,List.length_nil] at hT hE hlen
    have e7 : cF7 b l (a,0) = (T.length,(p6 + 1,0)):=by
      unfold cF7
      rw [e6]
      exact cnF_at hn7 (by omega) t1 t2
    have e8 : cF8 b l (a,0) = (T,(p6 + 1 + (qsB (tV T)).length,0)):=by
      unfold cF8
      rw [e7]
      refine tsG_at T [] _ hT fun t ht => ?_
      obtain ⟨q,hq⟩:=okTs_T t5 t ht
      exact ⟨q,hq,hf.T t ht q hq⟩
    have e9 : cF9 b l (a,0) = (E,(p6 + 1 + (qsB (tV T)).length + (esB (eV E)).length,0)):=by
      unfold cF9
      rw [e2,e7,e8]
      simp only
      rw [← t3]
      refine esG_at E [] _ (by rw [show p6 + 1 + (qsB (tV T)).length = p6 + (0 + 1 + (qsB (tV T)).length) by omega];exact hE) fun e he => ?_
      obtain ⟨x1,x2⟩:=okTs_E t5 t3 e he
      exact ⟨x1,x2,hf.E e he⟩
    have hC : clC b l (a,0) = (⟨k,F,B,R,T,E⟩,(p6 + 1 + (qsB (tV T)).length + (esB (eV E)).length,0)):=by
      unfold clC
      rw [e1,e3,e5,e6,e8,e9]
      simp only
      rw [if_pos (by omega),hck]
    rw [hC,frm_ok ho,hlen]
    rw [show p6 + 1 + (qsB (tV T)).length + (esB (eV E)).length = a + (0 + 1 + 1 + (bxBy (boxR B).1).length + (0 + 1) + (fsB (F.map pV)).length + (if k = 2 then sB (clR ⟨k,F,B,R,T,E⟩) else []).length + (0 + 1 + (qsB (tV T)).length + (esB (eV E)).length)) by omega]
  · rw [if_neg k5] at hto hlen
    simp only [Bool.and_eq_true,decide_eq_true_eq] at hto
    obtain ⟨t1,t2⟩:=hto
    obtain rfl:=List.eq_nil_of_length_eq_zero t1
    obtain rfl:=List.eq_nil_of_length_eq_zero t2
    have hC : clC b l (a,0) = (⟨k,F,B,R,[],[]⟩,(p6,0)):=by
      unfold clC
      rw [e1,e3,e5,e6]
      simp only
      rw [if_neg (by omega),hck]
    rw [hC,frm_ok ho,hlen]
    simp only [List.length_nil]
    rw [show p6 = a + (0 + 1 + 1 + (bxBy (boxR B).1).length + (0 + 1) + (fsB (F.map pV)).length + (if k = 2 then sB (clR ⟨k,F,B,R,[],[]⟩) else []).length + 0) by omega]
theorem rdec_bits : ∀ (k n : Nat),n ≤ k → n < 2 ^ (4 * (rdec n).length)
  | 0,n,h => by
    obtain rfl : n = 0:=by omega
    exact Nat.two_pow_pos _
  | k + 1,n,h => by
    by_cases h0 : n = 0
    · subst h0;exact Nat.two_pow_pos _
    have:=rdec_bits k (n / 10) (by omega)
    rw [rdec_pos h0,List.length_cons,show 4 * ((rdec (n / 10)).length + 1) = 4 * (rdec (n / 10)).length + 4 by omega,Nat.pow_add]
    generalize 2 ^ (4 * (rdec (n / 10)).length) = p at *
    omega
theorem dec_bits (n : Nat) : nbit n ≤ 4 * (dec n).length:=by
  unfold dec
  split
  · rename_i h;subst h;rw [nbit0];omega
  · rw [List.length_reverse]
    exact nbit_lt.2 (rdec_bits n n (Nat.le_refl _))
theorem decQ_bits (q : Rat) (h : (decQ q).length ≤ 30) : nbit q.num.natAbs ≤ 120 ∧ nbit q.den ≤ 120:=by
  have h1:=dec_bits q.num.natAbs
  have h2:=dec_bits q.den
  have h3 : (dec q.num.natAbs).length ≤ (decZ q.num).length:=by
    unfold decZ
    split
    · rw [List.length_cons];omega
    · omega
  unfold decQ at h
  split at h
  · rename_i e
    refine ⟨by omega, ?_⟩
    rw [e]
    decide
  · rw [List.length_append,List.length_cons] at h
    exact ⟨by omega,by omega⟩
theorem nbit_nb4 {n : Nat} (h : nbit n ≤ 120) : nb n ≤ 4:=by
  have:=nbit_lt.1 h
  refine nb_lt.2 (Nat.lt_of_lt_of_le this ?_)
  rw [show (4294967296 : Nat) = 2 ^ 32 from rfl,← Nat.pow_mul]
  exact Nat.pow_le_pow_right (by omega) (by omega)
theorem qB_short {q : Rat} (h : (decQ q).length ≤ 30) : (qB q).length ≤ 60:=by
  obtain ⟨h1,h2⟩:=decQ_bits q h
  have n1 : zb q.num ≤ 4:=nbit_nb4 h1
  have n2 : nb q.den ≤ 4:=nbit_nb4 h2
  have:=qB_len (q:=q) ⟨by omega,by omega⟩
  omega
def wideL : Lm:=⟨1000,20000,2000,60,1000⟩
theorem decQ_fit {q : Rat} (h : (decQ q).length ≤ 30) : fitQ 2000 q:=by
  obtain ⟨h1,h2⟩:=decQ_bits q h
  have e : (max (2000 : Int) 0).toNat = 2000:=by decide
  unfold fitQ
  rw [e]
  omega
def sh30 (p : Rat × Rat) : Prop:=(decQ p.1).length ≤ 30 ∧ (decQ p.2).length ≤ 30
theorem pairsB_sh {l : List (Txt × Txt)} {m : Nat} (h : pairsB l m = true) (h0 : (boxR l).2 = 0) : ∀ p ∈ (boxR l).1,sh30 p:=fun p hp => by
  unfold pairsB at h
  simp only [Bool.and_eq_true,decide_eq_true_eq,List.all_eq_true] at h
  have h1:=h.2 (plQ p) (by rw [← boxR_text h0];exact List.mem_map_of_mem hp)
  exact h1
theorem termsB_sh {l : List Tm} {m e : Nat} (h : termsB l m e = true) (h0 : okPl l = true) : ∀ p ∈ pV l,(decQ p.2).length ≤ 30:=fun p hp => by
  unfold termsB termB at h
  simp only [Bool.and_eq_true,decide_eq_true_eq,List.all_eq_true] at h
  have h1:=h.2 (tmQ p) (by
    have:=pV_text h0
    rw [← this]
    exact List.mem_map_of_mem hp)
  exact h1.1.1.1
theorem flat_len {α : Type} {f : α → List UInt8} {K : Nat} : ∀ (l : List α),(∀ x ∈ l,(f x).length ≤ K) → (l.flatMap f).length ≤ K * l.length
  | [],h => by simp
  | x :: l,h => by
    have h1:=h x List.mem_cons_self
    have h2:=flat_len l fun y hy => h y (List.mem_cons_of_mem _ hy)
    rw [List.flatMap_cons,List.length_append,List.length_cons,Nat.mul_succ]
    omega
theorem sB_short {p : Rat × Rat} (h : sh30 p) : (sB p).length ≤ 120:=by
  unfold sB
  rw [List.length_append]
  have:=qB_short h.1
  have:=qB_short h.2
  omega
theorem bxBy_short {l : List (Rat × Rat)} (h : ∀ p ∈ l,sh30 p) : (bxBy l).length ≤ 120 * l.length:=flat_len l fun p hp => sB_short (h p hp)
structure lite (c : Cl) : Prop where
  B : ∀ p ∈ (boxR c.B).1,sh30 p
  F : ∀ t ∈ c.F,t.length ≤ 20 ∧ ∀ p ∈ pV t,(decQ p.2).length ≤ 30
  R : c.k = 2 → sh30 (spR c.R.1 c.R.2).1
  T : ∀ t ∈ c.T,t.length ≤ 30
  E : ∀ e ∈ c.E,(boxR e).2 = 0 → ∀ p ∈ (boxR e).1,sh30 p
theorem light_lite {c : Cl} {t e : Nat} (ht : t ≤ 20) (h : lightB c t e = true) (ho : opnB c = true) : lite c:=by
  obtain ⟨o1,o2,o3,o4,o5,o6,o7,o8⟩:=opn_facts ho
  unfold lightB at h
  simp only [Bool.and_eq_true,decide_eq_true_eq,List.all_eq_true] at h
  obtain ⟨⟨⟨⟨⟨⟨⟨⟨h1,h2⟩,h3⟩,h4⟩,h5⟩,h6⟩,h7⟩,h8⟩,h9⟩:=h
  refine ⟨pairsB_sh h2 o1,fun x hx => ?_,fun k2 => ?_,h7,fun x hx h0 => pairsB_sh (h9 x hx) h0⟩
  · have g1:=List.all_eq_true.1 (show c.F.all (okF (boxR c.B).1.length) = true from o4) x hx
    unfold okF plOk at g1
    simp only [Bool.and_eq_true] at g1
    refine ⟨?_,termsB_sh (h8 x hx) g1.1.1⟩
    have:=h8 x hx
    unfold termsB at this
    simp only [Bool.and_eq_true,decide_eq_true_eq] at this
    omega
  · have:=spR_text (o8 k2)
    unfold plQ at this
    have e1:=congrArg Prod.fst this
    have e2:=congrArg Prod.snd this
    simp only at e1 e2
    exact ⟨by rw [e1];exact h3,by rw [e2];exact h4⟩
theorem tV_fit {t : Txt} {q : Rat} (h : t.length ≤ 30) (hq : rpO t = some q) : (decQ q).length ≤ 30:=by rw [rpO_text hq];exact h
theorem lite_fit {c : Cl} (h : lite c) (ho : opnB c = true) : fitC wideL c:=by
  obtain ⟨o1,o2,o3,o4,o5,o6,o7,o8⟩:=opn_facts ho
  refine ⟨fun p hp => ⟨decQ_fit (h.B p hp).1,decQ_fit (h.B p hp).2⟩,fun t ht => ⟨fun p hp => decQ_fit ((h.F t ht).2 p hp), ?_,by have:=(h.F t ht).1;omega⟩,fun k2 => ⟨decQ_fit (h.R k2).1,decQ_fit (h.R k2).2⟩,fun t ht q hq => decQ_fit (tV_fit (h.T t ht) hq),fun e he p hp => ?_⟩
  · have:=(h.F t ht).1
    show (t.length : Int) ≤ max (1000 : Int) 0
    omega
  · have h0 : (boxR e).2 = 0:=by
      by_cases k5 : c.k = 5
      · obtain ⟨q1,q2,q3,q4⟩:=o7 k5
        unfold okTE at q1
        simp only [Bool.and_eq_true,decide_eq_true_eq] at q1
        exact (okTs_E q1.2 q4 e he).1
      · have:=ho
        unfold opnB tOK at this
        rw [if_neg k5] at this
        simp only [Bool.and_eq_true,decide_eq_true_eq] at this
        rw [List.eq_nil_of_length_eq_zero this.2.2] at he
        cases he
    exact ⟨decQ_fit (h.E e he h0 p hp).1,decQ_fit (h.E e he h0 p hp).2⟩
theorem clB_short {c : Cl} (h : lite c) (ho : opnB c = true) : (clB c).length ≤ 20000:=by
  obtain ⟨o1,o2,o3,o4,o5,o6,o7,o8⟩:=opn_facts ho
  have hb:=boxR_ok o1
  have b1:=bxBy_short h.B
  have f1 : (fsB (c.F.map pV)).length ≤ 1300 * (c.F.map pV).length:=flat_len _ fun x hx => by
    obtain ⟨t,ht,rfl⟩:=List.mem_map.1 hx
    obtain ⟨g1,g2⟩:=h.F t ht
    have v:=vput_len (pV t).length (by rw [pV_len];omega)
    have w : (tsB (pV t)).length ≤ 63 * (pV t).length:=flat_len _ fun p hp => by
      have:=qB_short (g2 p hp)
      unfold tB mB
      rw [List.length_append,List.length_cons,List.length_cons,List.length_cons,List.length_nil]
      omega
    unfold plB
    rw [List.length_append]
    rw [pV_len] at w v ⊢
    omega
  rw [List.length_map] at f1
  have r1 : (if c.k = 2 then sB (clR c) else []).length ≤ 120:=by
    split
    · rename_i k2
      unfold clR
      rw [if_pos k2]
      exact sB_short (h.R k2)
    · exact Nat.zero_le _
  have t1 : (if c.k = 5 then [UInt8.ofNat c.T.length] ++ qsB (tV c.T) ++ esB (eV c.E) else []).length ≤ 1 + 480 + 360 * 8:=by
    split
    · rename_i k5
      obtain ⟨q1,q2,q3,q4⟩:=o7 k5
      unfold okTE at q1
      simp only [Bool.and_eq_true,decide_eq_true_eq] at q1
      have w1 : (qsB (tV c.T)).length ≤ 60 * (tV c.T).length:=flat_len _ fun q hq => by
        unfold tV at hq
        obtain ⟨t,ht,rfl⟩:=List.mem_map.1 hq
        obtain ⟨q,hq⟩:=okTs_T q1.2 t ht
        rw [hq,Option.getD_some]
        exact qB_short (tV_fit (h.T t ht) hq)
      have w2 : (esB (eV c.E)).length ≤ 360 * (eV c.E).length:=flat_len _ fun x hx => by
        unfold eV at hx
        obtain ⟨e,he,rfl⟩:=List.mem_map.1 hx
        obtain ⟨z1,z2⟩:=okTs_E q1.2 q4 e he
        have:=bxBy_short (h.E e he z1)
        omega
      have l1 : (tV c.T).length = c.T.length:=by unfold tV;rw [List.length_map]
      have l2 : (eV c.E).length = c.E.length:=by unfold eV;rw [List.length_map]
      rw [List.length_append,List.length_append,List.length_singleton]
      omega
    · exact Nat.zero_le _
  unfold clB hdB
  rw [List.length_append,List.length_append,List.length_append,List.length_append,List.length_append,List.length_singleton,List.length_cons,List.length_singleton]
  omega
theorem law_Wide : C E 38 [] (lmD wideL):=by
  refine CG_intro Tryz.func38 rfl (by kernel_rfl) rfl (by kernel_rfl) (by kernel_rfl) rfl ?_
  simp (disch:=first|exact dd|fail) only [go_sem,seval]
  try exact LeV.refl _
theorem law_ClaimBack {c : Cl} {x y : Txt} (hk : I6 c.k) (hx : x.length < 9223372036854775808) (hy : y.length < 9223372036854775808) :
    C E 8 [clD c, .str x, .str y] (.bool true):=by
  refine CG_intro Tryz.func8 rfl (by kernel_rfl) rfl (by kernel_rfl) (by kernel_rfl) rfl ?_
  have hA:=alive19
  have hL:=book_Light (c:=c) (t:=20) (e:=255) (by omega) (by omega)
  simp (disch:=first|exact dd|fail) only [go_sem,seval]
  refine cA hA ?_
  simp (disch:=first|exact dd|fail) only [go_sem,seval]
  cases hl : lightB c 20 255 with
  | false =>
    rw [hl] at hL
    refine cA hL ?_
    simp (disch:=first|exact dd|fail) only [go_sem,seval]
  | true =>
    rw [hl] at hL
    refine cA hL ?_
    have hok:=light_ok hk (by omega) hl
    have hBy:=claim_Bytes hok
    by_cases h1 : 40 < x.length
    · simp (disch:=first|exact dd|fail) only [go_sem,seval]
    by_cases h2 : 40 < y.length
    · simp (disch:=first|exact dd|fail) only [go_sem,seval]
    simp (disch:=first|exact dd|fail) only [go_sem,seval]
    unfold clBD at hBy
    cases ho : opnB c with
    | false =>
      rw [ho,if_neg Bool.false_ne_true] at hBy
      refine cA hBy ?_
      simp (disch:=first|exact dd|fail) only [go_sem,seval]
    | true =>
      rw [ho,if_pos rfl] at hBy
      have hli:=light_lite (by omega) hl ho
      have hsh:=clB_short hli ho
      have hW:=law_Wide
      have hR:=claim_Read (b:=x ++ clB c ++ y) (l:=wideL) (a:=(x.length : Int)) (by rw [List.length_append,List.length_append];omega) ⟨⟨by decide,by decide⟩,⟨by decide,by decide⟩⟩ (by unfold I6;omega)
      have hv : rcV (x ++ clB c ++ y) wideL (x.length : Int) = (c,(x.length + (clB c).length,0)):=by
        unfold rcV
        rw [if_neg (by rw [List.length_append,List.length_append];omega),Int.toNat_natCast,clF_at hok ho (lite_fit hli ho) ⟨x,y,by rw [List.append_assoc],rfl⟩]
        exact fnV_ok rfl
      rw [hv] at hR
      unfold cgD at hR
      have hS:=book_SameClaim hok
      generalize clB c = w at *
      refine cA hBy ?_
      simp (disch:=first|exact dd|fail) only [go_sem,seval]
      refine cA hW ?_
      simp (disch:=first|exact dd|fail) only [go_sem,seval]
      refine cA hR ?_
      simp (disch:=first|exact dd|fail) only [go_sem,seval]
      refine cA hS ?_
      simp (disch:=first|exact dd|fail) only [go_sem,seval]
theorem gTab : Tryz.prog.globalNamed "math/bits.deBruijn32tab" = some 0:=by kernel_rfl
theorem gTabType : (Tryz.prog.globals[0]?).map (·.type) = some 279:=by kernel_rfl
def kz : List Int:=deBr
def laidDat {H : Type} : List (String × DataW H):=[("math/bits.deBruijn32tab",Rows.laid_math_bits_deBruijn32tab)]
theorem rounds_tab {W : World} (h : laidMetH Tryz.prog laidDat W) : Lib.TabIs Tryz.prog W "math/bits.deBruijn32tab" .u8 kz:=
  Lib.tabIs_of_head (rest:=[]) gTab gTabType Tryz.underlying279 Tryz.underlying5 (by kernel_rfl) (by kernel_rfl) h
theorem laid_gok {W : World} (h : laidMetH Tryz.prog laidDat W) : GOK E (fun b => b < W.heap.size) W:=by
  intro g
  show Rep0 _ W (gv0 g) _
  unfold gv0 gvS gvB
  split
  · rename_i e
    subst e
    have hc:=fun i hi => (rounds_tab h).cell gTab i hi
    have hlen : kz.length = 32:=rfl
    simp only [Rep0,deBrD]
    refine ⟨_,0, .agg ⟨kz.map (Value.int .u8)⟩,kz.map (Value.int .u8),rfl,World.block_lt_of_cell? _ _ (hc 0 (by omega)),by simp [hlen],fun j x hj => ?_,rfl,kz.map (Value.int .u8),rfl, ?_⟩
    · rw [List.getElem?_map,Option.map_eq_some_iff] at hj
      obtain ⟨z,hz,rfl⟩:=hj
      obtain ⟨hlt,hz⟩:=List.getElem?_eq_some_iff.1 hz
      refine ⟨?_,rfl⟩
      rw [Nat.zero_add,hc j hlt,List.getD_eq_getElem?_getD,List.getElem?_eq_getElem hlt,hz]
      rfl
    · unfold kz
      generalize deBr = l
      induction l with
      | nil => simp [Rep0s]
      | cons x l ih =>
        simp only [List.map_cons,Rep0s]
        exact ⟨_,_,rfl,rfl,ih⟩
  · rfl
end Go.Proofs.YtakaojkfipnfcaaGreatDoor.Lv
