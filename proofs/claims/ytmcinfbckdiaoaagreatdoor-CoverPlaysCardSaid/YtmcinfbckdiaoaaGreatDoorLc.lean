/- The abstract machine: a region whose order is drawn. The abstract machine: regions. The abstract machine: code, and contracts. The abstract machine: a function's contract out of its code. The abstract machine: rules for reckoning. The abstract machine: a nil slice as an empty row of the call's own; decisions found by reckoning. The abstract machine: two nil slices as empty rows of the call's own. -/
import Derived.Test.YtmcinfbckdiaoaaGreatDoorLb
import Derived.Deep.LoopGhost
import Derived.LoopN
import Derived.RangeFuncSeq
import Derived.RangeFuncRecord
import Derived.RangeFuncLeaves
set_option linter.unusedVariables false
set_option linter.unusedSimpArgs false
namespace Go.Proofs.YtmcinfbckdiaoaaGreatDoor.Lv
open Go Go.RowKit

/-- Looks at no block at all. -/
def isR : Op → Bool
  | .move .. | .assign .. | .pick .. | .field .. | .binOp .. | .unOp .. | .index .. | .extract .. | .makeFunc .. => true
  | .call c => match c.callee with
    | .builtin .min | .builtin .max => true
    | _ => false
  | _ => false
/-- May x, which only reckons or reads, and y change places? -/
def okP (E : Ctx) (x y : Op) : Bool := isP E x && match kd E y with
  | .pure | .call | .new => true
  | .sto => isR x || !isLoad x
  | .oth | .app => isR x
def okPair (E : Ctx) (ops : Array Oper) (x y : Oper) : Bool := x.apart ops y && (okP E x.op y.op || okP E y.op x.op)

section
variable {E : Ctx} {B : Base} {s : St} {ops : Array Oper}

theorem pv_R {s s' : St} {op : Op} (hr : isR op = true) (he : ∀ x ∈ op.operands, ev E s x = ev E s' x) : pv E s op = pv E s' op := by
  cases op <;> simp only [isR, Bool.false_eq_true] at hr
  case move x => simp only [pv, he x (by simp [Op.operands])]
  case assign x => simp only [pv, he x (by simp [Op.operands])]
  case pick c a b => simp only [pv, he c (by simp [Op.operands]), he a (by simp [Op.operands]), he b (by simp [Op.operands])]
  case field t x i => simp only [pv, he x (by simp [Op.operands])]
  case binOp op t x y yt => simp only [pv, he x (by simp [Op.operands]), he y (by simp [Op.operands])]
  case unOp op t x => simp only [pv, he x (by simp [Op.operands])]
  case index t x i => simp only [pv, he x (by simp [Op.operands]), he i (by simp [Op.operands])]
  case extract x i => simp only [pv, he x (by simp [Op.operands])]
  case makeFunc fn first cap =>
    obtain ⟨first⟩ := first
    obtain ⟨cap⟩ := cap
    have : cap.map (ev E s) = cap.map (ev E s') := List.map_congr_left fun x hx => he x (by simp [Op.operands, hx])
    cases fn <;> cases first <;> simp only [pv, this]
  case call c =>
    obtain ⟨callee, ⟨args⟩, ⟨tys⟩⟩ := c
    cases callee with
    | value f => cases hr
    | invoke r n => cases hr
    | builtin bi =>
      cases bi <;> simp only [Bool.false_eq_true] at hr
      all_goals
        match args with
        | [x, y] => simp only [pv, he x (by simp [Op.operands, Call.operands]), he y (by simp [Op.operands, Call.operands])]
        | [] => rfl
        | [_] => rfl
        | _ :: _ :: _ :: _ => rfl

mutual
theorem blks_some {H : Hp} {φ : Ph} {S : Nat → Prop} {w : World} : ∀ (d : D) (v : Value), RepV H φ S w d v → ∀ b ∈ blks d, ∃ x, lookB H b = some x
  | .int .., _, _, _, hb | .bool .., _, _, _, hb | .str .., _, _, _, hb | .nilp, _, _, _, hb | .nils, _, _, _, hb | .nilm, _, _, _, hb | .nilf, _, _, _, hb | .gl .., _, _, _, hb | .unk, _, _, _, hb | .ro .., _, _, _, hb | .ra .., _, _, _, hb => by simp [blks] at hb
  | .sl b' ver off n, v, h, b, hb => by
    simp only [blks, List.mem_singleton] at hb
    subst hb
    simp only [RepV] at h
    obtain ⟨fz, ver', ag, sz, m, f, hl, _⟩ := h
    exact ⟨_, hl⟩
  | .ad b' off, v, h, b, hb => by
    simp only [blks, List.mem_singleton] at hb
    subst hb
    simp only [RepV] at h
    obtain ⟨ag, sz, d, c, t, hl, _⟩ := h
    exact ⟨_, hl⟩
  | .el b' ver i fo, v, h, b, hb => by
    simp only [blks, List.mem_singleton] at hb
    subst hb
    simp only [RepV] at h
    obtain ⟨fz, ver', ag, sz, m, f, hl, _⟩ := h
    exact ⟨_, hl⟩
  | .vs b' off esz n, v, h, b, hb => by
    simp only [blks, List.mem_singleton] at hb
    subst hb
    simp only [RepV] at h
    obtain ⟨ag, sz, d, c, t, a, cap, hl, _⟩ := h
    exact ⟨_, hl⟩
  | .agg cs, v, h, b, hb => by
    simp only [RepV, blks] at h hb
    obtain ⟨vs, e, h⟩ := h
    exact blkss_some cs vs h b hb
  | .tup cs, v, h, b, hb => by
    simp only [RepV, blks] at h hb
    obtain ⟨vs, e, h⟩ := h
    exact blkss_some cs vs h b hb
  | .fn f cs, v, h, b, hb => by
    simp only [RepV, blks] at h hb
    obtain ⟨vs, e, h⟩ := h
    exact blkss_some cs vs h b hb
theorem blkss_some {H : Hp} {φ : Ph} {S : Nat → Prop} {w : World} : ∀ (ds : List D) (vs : List Value), RepVs H φ S w ds vs → ∀ b ∈ blkss ds, ∃ x, lookB H b = some x
  | [], vs, h, b, hb => by simp [blkss] at hb
  | d :: ds, vs, h, b, hb => by
    simp only [RepVs, blkss, List.mem_append] at h hb
    obtain ⟨v, vs', e, h1, h2⟩ := h
    rcases hb with hb | hb
    · exact blks_some d v h1 b hb
    · exact blkss_some ds vs' h2 b hb
end
theorem ev_blks (hB : BOK E B) (hL : Live B s) (x : Operand) : ∀ b ∈ blks (ev E s x), b < s.nx := fun b hb => by
  obtain ⟨φ, S, a, w, hr⟩ := hL
  obtain ⟨y, hy⟩ := blks_some _ _ (hr.ev (hB.gok hr) x) b hb
  exact hr.nx b y hy

/-- What x comes to is not touched by y. -/
theorem pvG_stable {x : Oper} {y : Op} (hok : okP E x.op y = true) (hB : BOK E B) (hL : Live B s) {h : Hp} (hh : HRel (kd E y) s.h s.nx h) {e' : Nat → D} {nx : Nat}
    (ha : ∀ z ∈ x.op.operands, ev E s z = ev E ⟨e', h, nx⟩ z) (hg : ∀ g want t, x.guard = some (g, want) → (ops[g]?).bind (·.dst) = some t → s.e t = e' t) : pvG E ops x ⟨e', h, nx⟩ = pvG E ops x s := by
  have key : pv E s x.op = pv E ⟨e', h, nx⟩ x.op := by
    simp only [okP, Bool.and_eq_true] at hok
    obtain ⟨_, hok⟩ := hok
    cases hk : kd E y <;> rw [hk] at hok hh <;> simp only [HRel] at hh
    case pure => subst hh; exact pv_congr ha fun z hz b hb => Same.of_eq rfl
    case call => exact pv_congr ha fun z hz b hb => hh b (ev_blks hB hL z b hb)
    case new => exact pv_congr ha fun z hz b hb => Same.of_eq (hh b (Nat.ne_of_lt (ev_blks hB hL z b hb)))
    case sto =>
      simp only [Bool.or_eq_true, Bool.not_eq_true'] at hok
      rcases hok with hok | hok
      · exact pv_R hok ha
      · exact pv_congrS hok ha fun z hz b hb => hh b
    case oth => exact pv_R hok ha
    case app => exact pv_R hok ha
  unfold pvG
  cases hgu : x.guard with
  | none => exact key.symm
  | some q =>
    obtain ⟨g, want⟩ := q
    simp only
    cases ht : (ops[g]?).bind (·.dst) with
    | none => rfl
    | some t =>
      simp only
      rw [← hg g want t hgu ht, key]

theorem put_swap (e : Nat → D) (h h' : Hp) (nx nx' : Nat) {x y : Option Nat} (hne : ∀ d, x = some d → y ≠ some d) (dx dy : D) :
    ((⟨(St.put ⟨e, h', nx'⟩ x dx).e, h, nx⟩ : St).put y dy) = ((⟨e, h, nx⟩ : St).put y dy).put x dx := by
  cases x with
  | none => cases y <;> rfl
  | some tx =>
    cases y with
    | none => rfl
    | some ty =>
      have : tx ≠ ty := fun e => hne tx rfl (by rw [e])
      simp only [St.put, St.mk.injEq, and_true]
      funext t
      simp only [upd]
      by_cases h1 : t = ty <;> by_cases h2 : t = tx <;> simp_all
theorem agree_put {op : Op} {dst : Option Nat} {d : D} {h h' : Hp} {nx nx' : Nat} {e : Nat → D} (hn : ∀ t, dst = some t → (Operand.tmp t) ∉ op.operands) : ∀ z ∈ op.operands, ev E ⟨e, h, nx⟩ z = ev E (St.put ⟨e, h', nx'⟩ dst d) z := fun z hz => by
  cases dst with
  | none => cases z <;> rfl
  | some t =>
    cases z with
    | tmp t' =>
      have : t' ≠ t := fun e => hn t rfl (e ▸ hz)
      simp [ev, St.put, upd, this]
    | _ => rfl
theorem looks_operand {o : Oper} {t : Nat} (h : t ∉ o.looksAt ops) : (Operand.tmp t) ∉ o.op.operands := fun hm => h (List.mem_append_left _ (List.mem_filterMap.2 ⟨.tmp t, by simpa using hm, rfl⟩))
theorem looks_guard {o : Oper} {g : Nat} {want : Bool} {t : Nat} (hg : o.guard = some (g, want)) (ht : (ops[g]?).bind (·.dst) = some t) : t ∈ o.looksAt ops :=
  List.mem_append_right _ (by simp [hg, ht])
theorem agreeT_put {o : Oper} {dst : Option Nat} (hn : ∀ t, dst = some t → t ∉ o.looksAt ops) (d : D) {h h' : Hp} {nx nx' : Nat} {e : Nat → D} : AgreeT E ops o ⟨e, h, nx⟩ (St.put ⟨e, h', nx'⟩ dst d).e :=
  ⟨fun z hz => by
    have := agree_put (E := E) (op := o.op) (dst := dst) (d := d) (h := h) (nx := nx) (h' := h') (nx' := nx') (e := e) (fun t ht => looks_operand (hn t ht)) z hz
    cases z <;> exact this,
   fun g want t hg ht => by
    cases dst with
    | none => rfl
    | some t' =>
      have : t ≠ t' := fun e => hn t' rfl (e ▸ looks_guard hg ht)
      simp [St.put, upd, this]⟩

/-- x ahead of y: y may come ahead of x. -/
theorem comm1 {x y : Oper} (hap : x.apart ops y = true) (hok : okP E x.op y.op = true) (hB : BOK E B) (hL : Live B s) {K : St → Prop} (h : AT E ops x (AT E ops y K) s) : AT E ops y (AT E ops x K) s := by
  obtain ⟨a1, a2, a3⟩ := Oper.apart_spec hap
  have hp : isP E x.op = true := by simp only [okP, Bool.and_eq_true] at hok; exact hok.1
  obtain ⟨dx, hpx, hy⟩ := (AT_pure hp _).1 h
  have hs : ∀ (h1 : Hp) (nx : Nat) (dy : D), HRel (kd E y.op) s.h s.nx h1 → pvG E ops x ((⟨s.e, h1, nx⟩ : St).put y.dst dy) = some dx := fun h1 nx dy hh => by
    rw [← hpx]
    have : ((⟨s.e, h1, nx⟩ : St).put y.dst dy) = ⟨((⟨s.e, h1, nx⟩ : St).put y.dst dy).e, h1, nx⟩ := by cases y.dst <;> rfl
    rw [this]
    have ag := agreeT_put (E := E) (o := x) (ops := ops) (dst := y.dst) a3 dy (h := s.h) (h' := h1) (nx := s.nx) (nx' := nx) (e := s.e)
    refine pvG_stable hok hB hL hh (fun z hz => ?_) ag.2
    have := ag.1 z hz
    cases z <;> exact this
  have hb : (s.put x.dst dx).h = s.h ∧ (s.put x.dst dx).nx = s.nx := ⟨St.put_h .., St.put_nx ..⟩
  have ag : AgreeT E ops y (s.put x.dst dx) s.e := by
    have := agreeT_put (E := E) (o := y) (ops := ops) (dst := x.dst) a1 dx (h := s.h) (h' := s.h) (nx := s.nx) (nx' := s.nx) (e := s.e)
    refine ⟨fun z hz => ?_, fun g want t hg ht => (this.2 g want t hg ht).symm⟩
    have := this.1 z hz
    cases z <;> exact this.symm
  rcases AT_det hy with ⟨dy, h1, nx, h2, h3, h4⟩ | ⟨p, h1, h2, h3⟩
  · rw [hb.1, hb.2] at h2
    have := h4 s.e (AT E ops x K) ag ((AT_pure hp _).2 ⟨dx, hs h1 nx dy h2, by
      rw [← put_swap (h' := s.h) (nx' := s.nx) (hne := a2)]
      exact h3⟩)
    rw [hb.1, hb.2] at this
    exact this
  · have := h3 s.e (AT E ops x K) ag fun b hbp => (AT_pure hp _).2 ⟨dx, by
      rw [hb.1, hb.2]
      exact hs s.h s.nx (.bool b) (HRel.refl _ _ _), by
      rw [hb.1, hb.2]
      rw [← put_swap (h' := s.h) (nx' := s.nx) (hne := a2)]
      have := h2 b hbp
      rw [show (s.put x.dst dx) = ⟨(s.put x.dst dx).e, s.h, s.nx⟩ by cases x.dst <;> rfl] at this
      exact this⟩
    rw [hb.1, hb.2] at this
    exact this
/-- y ahead of x: x may come ahead of y. -/
theorem comm2 {x y : Oper} (hap : y.apart ops x = true) (hok : okP E x.op y.op = true) (hB : BOK E B) (hL : Live B s) {K : St → Prop} (h : AT E ops y (AT E ops x K) s) : AT E ops x (AT E ops y K) s := by
  obtain ⟨a1, a2, a3⟩ := Oper.apart_spec hap
  have hp : isP E x.op = true := by simp only [okP, Bool.and_eq_true] at hok; exact hok.1
  have a2' : ∀ d, x.dst = some d → y.dst ≠ some d := fun d hx hy => a2 d hy hx
  have hs : ∀ (h1 : Hp) (nx : Nat) (dy : D), HRel (kd E y.op) s.h s.nx h1 → pvG E ops x ((⟨s.e, h1, nx⟩ : St).put y.dst dy) = pvG E ops x s := fun h1 nx dy hh => by
    have : ((⟨s.e, h1, nx⟩ : St).put y.dst dy) = ⟨((⟨s.e, h1, nx⟩ : St).put y.dst dy).e, h1, nx⟩ := by cases y.dst <;> rfl
    rw [this]
    have ag := agreeT_put (E := E) (o := x) (ops := ops) (dst := y.dst) a1 dy (h := s.h) (h' := h1) (nx := s.nx) (nx' := nx) (e := s.e)
    refine pvG_stable hok hB hL hh (fun z hz => ?_) ag.2
    have := ag.1 z hz
    cases z <;> exact this
  have ag : ∀ dx, AgreeT E ops y s (s.put x.dst dx).e := fun dx => by
    have := agreeT_put (E := E) (o := y) (ops := ops) (dst := x.dst) a3 dx (h := s.h) (h' := s.h) (nx := s.nx) (nx' := s.nx) (e := s.e)
    exact this
  have fin : ∀ dx, AT E ops y K ⟨(s.put x.dst dx).e, s.h, s.nx⟩ → AT E ops y K (s.put x.dst dx) := fun dx h => by
    rwa [show (s.put x.dst dx) = ⟨(s.put x.dst dx).e, s.h, s.nx⟩ by cases x.dst <;> rfl]
  rcases AT_det h with ⟨dy, h1, nx, h2, h3, h4⟩ | ⟨p, h1, h2, h3⟩
  · obtain ⟨dx, h5, h6⟩ := (AT_pure hp _).1 h3
    rw [hs h1 nx dy h2] at h5
    refine (AT_pure hp _).2 ⟨dx, h5, fin dx (h4 _ K (ag dx) ?_)⟩
    have := put_swap s.e h1 s.h nx s.nx (x := x.dst) (y := y.dst) a2' dx dy
    rw [show (St.put s x.dst dx).e = (St.put ⟨s.e, s.h, s.nx⟩ x.dst dx).e from rfl, this]
    exact h6
  · obtain ⟨dx, h5, _⟩ := (AT_pure hp _).1 (h2 false h1)
    have h5' : pvG E ops x s = some dx := (hs s.h s.nx (.bool false) (HRel.refl _ _ _)).symm.trans h5
    refine (AT_pure hp _).2 ⟨dx, h5', fin dx (h3 _ K (ag dx) fun b hb => ?_)⟩
    obtain ⟨dx', h6, h7⟩ := (AT_pure hp _).1 (h2 b hb)
    have : pvG E ops x s = some dx' := (hs s.h s.nx (.bool b) (HRel.refl _ _ _)).symm.trans h6
    rw [h5'] at this
    cases this
    have := put_swap s.e s.h s.h s.nx s.nx (x := x.dst) (y := y.dst) a2' dx (.bool b)
    rw [show (St.put s x.dst dx).e = (St.put ⟨s.e, s.h, s.nx⟩ x.dst dx).e from rfl, this]
    exact h7
theorem apart_symm {x y : Oper} (h : x.apart ops y = true) : y.apart ops x = true := by
  obtain ⟨a1, a2, a3⟩ := Oper.apart_spec h
  have h1 : ∀ d, x.dst = some d → ((y.looksAt ops).contains d) = false := fun d hd => by simpa using a1 d hd
  have h3 : ∀ d, y.dst = some d → ((x.looksAt ops).contains d) = false := fun d hd => by simpa using a3 d hd
  unfold Oper.apart
  cases hx : x.dst with
  | none => cases hy : y.dst with
    | none => simp
    | some dy => have := h3 dy hy; simp_all
  | some dx => cases hy : y.dst with
    | none => have := h1 dx hx; simp_all
    | some dy =>
      have e1 := h1 dx hx
      have e3 := h3 dy hy
      have e2 := a2 dx hx
      rw [hy] at e2
      have e4 : dx ≠ dy := fun e => e2 (by rw [e])
      simp_all
theorem comm {x y : Oper} (hok : okPair E ops x y = true) (hB : BOK E B) (hL : Live B s) {K : St → Prop} (h : AT E ops x (AT E ops y K) s) : AT E ops y (AT E ops x K) s := by
  simp only [okPair, Bool.and_eq_true, Bool.or_eq_true] at hok
  rcases hok with ⟨h1, h2 | h2⟩
  · exact comm1 h1 h2 hB hL h
  · exact comm2 h1 h2 hB hL h

/-- Behind an operation something is alive. -/
theorem AT_live {o : Oper} (hB : BOK E B) (hL : Live B s) (hd : dstOk B.N o = true) {K : St → Prop} (h : AT E ops o K s) : ∃ s', Live B s' ∧ K s' := by
  obtain ⟨φ, S, a, w, hr⟩ := hL
  unfold AT at h
  split at h
  · exact (AX_runs hB hr (dstOk.spec hd) h).live
  · rename_i g want hg
    split at h
    · rename_i t ht
      unfold gd at h
      split at h
      · rename_i b hb
        by_cases e : b = want
        · exact (AX_runs hB hr (dstOk.spec hd) (h.1 e)).live
        · exact ⟨_, ⟨_, _, _, _, hr.put (d := .tup []) (v := undef) (by simp only [RepV, RepVs, undef]; exact ⟨[], rfl, rfl⟩) (dstOk.spec hd)⟩, h.2 e⟩
      · exact ⟨_, ⟨_, _, _, _, hr.put (d := .tup []) (v := undef) (by simp only [RepV, RepVs, undef]; exact ⟨[], rfl, rfl⟩) (dstOk.spec hd)⟩, h⟩
      · exact h.elim
    · exact h.elim
theorem AT_mono {o : Oper} (hB : BOK E B) (hL : Live B s) (hd : dstOk B.N o = true) {K K' : St → Prop} (hK : ∀ s', Live B s' → K s' → K' s') (h : AT E ops o K s) : AT E ops o K' s := by
  have self : AgreeT E ops o s s.e := ⟨fun z _ => by cases z <;> rfl, fun _ _ _ _ _ => rfl⟩
  rcases AT_det h with ⟨d, h1, nx, h2, h3, h4⟩ | ⟨p, h1, h2, h3⟩
  · refine h4 s.e K' self (hK _ ?_ h3)
    obtain ⟨s', hL', e⟩ := AT_live hB hL hd (h4 s.e (fun s' => s' = (⟨s.e, h1, nx⟩ : St).put o.dst d) self rfl)
    exact e ▸ hL'
  · refine h3 s.e K' self fun b hb => hK _ ?_ (h2 b hb)
    obtain ⟨φ, S, a, w, hr⟩ := hL
    exact ⟨_, _, _, _, hr.put (d := .bool b) (v := .bool b) (by simp [RepV, Rep0]) (dstOk.spec hd)⟩
end

end Go.Proofs.YtmcinfbckdiaoaaGreatDoor.Lv

set_option linter.unusedVariables false
set_option linter.unusedSimpArgs false
namespace Go.Proofs.YtmcinfbckdiaoaaGreatDoor.Lv
open Go Go.RowKit

def without (U : List Nat) (i : Nat) : List Nat := U.filter fun j => j != i
def readyA (ops : Array Oper) (U : List Nat) : List Nat := U.filter fun i => match ops[i]? with
  | some o => o.after.toList.all fun e => !Region.binds .any e || !U.contains e.on
  | none => false
def AI (E : Ctx) (ops : Array Oper) (i : Nat) (K : St → Prop) (s : St) : Prop := match ops[i]? with
  | some o => AT E ops o K s
  | none => K s
/-- Whatever order is drawn. -/
def AAny (E : Ctx) (ops : Array Oper) : Nat → List Nat → (St → Prop) → St → Prop
  | 0, U, K, s => U = [] ∧ K s
  | n + 1, U, K, s => (readyA ops U = [] → K s) ∧ ∀ i ∈ readyA ops U, AI E ops i (AAny E ops n (without U i) K) s
def backOk (ops : Array Oper) : Bool := (List.range ops.size).all fun i => match ops[i]? with
  | some o => o.after.toList.all fun e => !Region.binds .any e || decide (e.on < i)
  | none => true
def masks (ops : Array Oper) : Array Nat := ops.toList.foldl (fun ms o => ms.push (o.after.toList.foldl (fun s e => if Region.binds .any e then s ||| 2 ^ e.on ||| ms.getD e.on 0 else s) 0)) #[]
def maskOk (ops : Array Oper) (ms : Array Nat) : Bool := (List.range ops.size).all fun i => match ops[i]? with
  | some o => ms.getD i 0 == o.after.toList.foldl (fun s e => if Region.binds .any e then s ||| 2 ^ e.on ||| ms.getD e.on 0 else s) 0
  | none => true
def freeOk (E : Ctx) (ops : Array Oper) (ms : Array Nat) (U : List Nat) (i : Nat) : Bool := match ops[i]? with
  | none => false
  | some oi => U.all fun j => j == i || (ms.getD j 0).testBit i || match ops[j]? with
    | some oj => okPair E ops oi oj
    | none => true
def regOk (E : Ctx) (ops : Array Oper) : Bool :=
  let ms := masks ops
  maskOk ops ms && (List.range ops.size).all fun i => freeOk E ops ms (List.range' i (ops.size - i)) i
/-- A region. -/
def AReg (E : Ctx) (ops : Array Oper) (draw : Bool) (K : St → Prop) (s : St) : Prop :=
  if draw then ∀ B, BOK E B → ops.all (dstOk B.N) = true → backOk ops = true → Live B s → AAny E ops ops.size (List.range ops.size) K s else AR E ops ops.toList K s

section
variable {E : Ctx} {B : Base} {ops : Array Oper}

theorem mem_without {U : List Nat} {i j : Nat} : j ∈ without U i ↔ j ∈ U ∧ j ≠ i := by simp [without]
theorem without_comm (U : List Nat) (i j : Nat) : without (without U i) j = without (without U j) i := by
  unfold without
  rw [List.filter_filter, List.filter_filter]
  congr 1
  funext x
  rw [Bool.and_comm]
theorem mem_readyA {U : List Nat} {i : Nat} : i ∈ readyA ops U ↔ i ∈ U ∧ ∃ o, ops[i]? = some o ∧ ∀ e ∈ o.after, Region.binds .any e = true → e.on ∉ U := by
  unfold readyA
  rw [List.mem_filter]
  cases ho : ops[i]? with
  | none => simp
  | some o =>
    simp only [List.all_eq_true, Bool.or_eq_true, Bool.not_eq_true', Option.some.injEq, exists_eq_left', Array.mem_toList_iff]
    refine and_congr_right fun _ => ⟨fun h e he hb => ?_, fun h e he => ?_⟩
    · rcases h e he with h | h
      · rw [hb] at h; cases h
      · simpa using h
    · cases hb : Region.binds .any e
      · exact .inl rfl
      · exact .inr (by simpa using h e he hb)
theorem readyA_mono {U : List Nat} {i j : Nat} (h : i ∈ readyA ops U) (hne : i ≠ j) : i ∈ readyA ops (without U j) := by
  rw [mem_readyA] at h ⊢
  obtain ⟨h1, o, h2, h3⟩ := h
  exact ⟨mem_without.2 ⟨h1, hne⟩, o, h2, fun e he hb hm => h3 e he hb (mem_without.1 hm).1⟩
theorem AI_some {i : Nat} {o : Oper} (h : ops[i]? = some o) (K : St → Prop) (s : St) : AI E ops i K s = AT E ops o K s := by unfold AI; rw [h]
theorem dst_of {N : Nat} (hd : ops.all (dstOk N) = true) {i : Nat} {o : Oper} (h : ops[i]? = some o) : dstOk N o = true := by
  obtain ⟨hlt, rfl⟩ := Array.getElem?_eq_some_iff.1 h
  exact Array.all_eq_true.1 hd i hlt
theorem AI_mono (hB : BOK E B) (hd : ops.all (dstOk B.N) = true) {i : Nat} {s : St} (hL : Live B s) {K K' : St → Prop} (hK : ∀ s', Live B s' → K s' → K' s') (h : AI E ops i K s) : AI E ops i K' s := by
  unfold AI at h ⊢
  cases ho : ops[i]? with
  | none => rw [ho] at h; exact hK s hL h
  | some o => rw [ho] at h; exact AT_mono hB hL (dst_of hd ho) hK h

theorem fold_bit (ms : Array Nat) (k : Nat) : ∀ (l : List Edge) (x : Nat), (l.foldl (fun s e => if Region.binds .any e then s ||| 2 ^ e.on ||| ms.getD e.on 0 else s) x).testBit k = true →
    x.testBit k = true ∨ ∃ e ∈ l, Region.binds .any e = true ∧ (e.on = k ∨ (ms.getD e.on 0).testBit k = true)
  | [], x, h => .inl h
  | e :: l, x, h => by
    simp only [List.foldl_cons] at h
    rcases fold_bit ms k l _ h with h | ⟨e', he', h⟩
    · split at h
      · rename_i hb
        simp only [Nat.testBit_or, Bool.or_eq_true, Nat.testBit_two_pow, decide_eq_true_eq] at h
        rcases h with (h | h) | h
        · exact .inl h
        · exact .inr ⟨e, by simp, hb, .inl h⟩
        · exact .inr ⟨e, by simp, hb, .inr h⟩
      · exact .inl h
    · exact .inr ⟨e', by simp [he'], h⟩
/-- What an operation comes behind has been. -/
theorem mask_down {ms : Array Nat} (hm : maskOk ops ms = true) {U : List Nat} (hdn : ∀ j k, j ∉ U → (ms.getD j 0).testBit k = true → k ∉ U) {j : Nat} (hj : j ∈ readyA ops U) {k : Nat} (hk : (ms.getD j 0).testBit k = true) : k ∉ U := by
  obtain ⟨h1, o, h2, h3⟩ := mem_readyA.1 hj
  have hlt : j < ops.size := (Array.getElem?_eq_some_iff.1 h2).1
  have := List.all_eq_true.1 hm j (List.mem_range.2 hlt)
  rw [h2] at this
  simp only [beq_iff_eq] at this
  rw [this] at hk
  rcases fold_bit ms k _ _ hk with h | ⟨e, he, hb, h⟩
  · simp at h
  · have hn := h3 e (by simpa using he) hb
    rcases h with rfl | h
    · exact hn
    · exact hdn _ _ hn h
theorem AAny_take (hB : BOK E B) (hd : ops.all (dstOk B.N) = true) {ms : Array Nat} (hm : maskOk ops ms = true) {i : Nat} {K : St → Prop} : ∀ (n : Nat) (U : List Nat) (s : St),
    i ∈ readyA ops U → freeOk E ops ms U i = true → (∀ j k, j ∉ U → (ms.getD j 0).testBit k = true → k ∉ U) → Live B s → AI E ops i (AAny E ops n (without U i) K) s → AAny E ops (n + 1) U K s
  | 0, U, s, hi, hf, hdn, hL, h => by
    refine ⟨fun e => (by rw [e] at hi; cases hi), fun j hj => ?_⟩
    by_cases hji : j = i
    · subst hji; exact h
    · obtain ⟨_, o, ho, _⟩ := mem_readyA.1 hi
      rw [AI_some ho] at h
      obtain ⟨s', _, h1, _⟩ := AT_live hB hL (dst_of hd ho) h
      have := mem_without.2 ⟨(mem_readyA.1 hj).1, hji⟩
      rw [h1] at this
      cases this
  | n + 1, U, s, hi, hf, hdn, hL, h => by
    refine ⟨fun e => (by rw [e] at hi; cases hi), fun j hj => ?_⟩
    by_cases hji : j = i
    · subst hji; exact h
    · obtain ⟨hiU, oi, hoi, _⟩ := mem_readyA.1 hi
      obtain ⟨hjU, oj, hoj, _⟩ := mem_readyA.1 hj
      have h1 : AI E ops i (AI E ops j (AAny E ops n (without (without U i) j) K)) s :=
        AI_mono hB hd hL (fun s' _ hx => hx.2 j (readyA_mono hj hji)) h
      have hok : okPair E ops oi oj = true := by
        have := hf
        unfold freeOk at this
        rw [hoi] at this
        have := List.all_eq_true.1 this j hjU
        rw [hoj] at this
        simp only [Bool.or_eq_true, beq_iff_eq] at this
        rcases this with (h2 | h2) | h2
        · exact (hji h2).elim
        · exact (mask_down hm hdn hj h2 hiU).elim
        · exact h2
      have h2 : AI E ops j (AI E ops i (AAny E ops n (without (without U i) j) K)) s := by
        rw [AI_some hoi] at h1
        rw [AI_some hoj]
        have e1 : ∀ s', AI E ops j (AAny E ops n (without (without U i) j) K) s' = AT E ops oj (AAny E ops n (without (without U i) j) K) s' := fun s' => AI_some hoj _ _
        have e2 : (AI E ops i (AAny E ops n (without (without U i) j) K)) = AT E ops oi (AAny E ops n (without (without U i) j) K) := funext fun s' => AI_some hoi _ _
        rw [show (AI E ops j (AAny E ops n (without (without U i) j) K)) = AT E ops oj (AAny E ops n (without (without U i) j) K) from funext e1] at h1
        rw [e2]
        exact comm hok hB hL h1
      refine AI_mono hB hd hL (fun s' hL' hx => ?_) h2
      rw [without_comm] at hx
      refine AAny_take hB hd hm n (without U j) s' (readyA_mono hi (Ne.symm hji)) ?_ (fun j' k hj' hk hkU => ?_) hL' hx
      · unfold freeOk at hf ⊢
        rw [hoi] at hf ⊢
        rw [List.all_eq_true] at hf ⊢
        exact fun x hx => hf x (mem_without.1 hx).1
      · have hkU' := (mem_without.1 hkU).1
        by_cases hjj : j' = j
        · subst hjj; exact mask_down hm hdn hj hk hkU'
        · exact hdn j' k (fun hm => hj' (mem_without.2 ⟨hm, hjj⟩)) hk hkU'

theorem back_spec (hb : backOk ops = true) {i : Nat} {o : Oper} (ho : ops[i]? = some o) {e : Edge} (he : e ∈ o.after) (hbd : Region.binds .any e = true) : e.on < i := by
  have := List.all_eq_true.1 hb i (List.mem_range.2 (Array.getElem?_eq_some_iff.1 ho).1)
  rw [ho] at this
  have h2 := List.all_eq_true.1 this e (by simpa using he)
  rw [hbd] at h2
  simpa using h2
theorem mask_lt {ms : Array Nat} (hb : backOk ops = true) (hm : maskOk ops ms = true) (hs : ms.size ≤ ops.size) : ∀ (j k : Nat), (ms.getD j 0).testBit k = true → k < j := by
  intro j
  induction j using Nat.strongRecOn with
  | _ j ih =>
    intro k hk
    cases ho : ops[j]? with
    | none =>
      have : ms.size ≤ j := Nat.le_trans hs (by simpa using ho)
      rw [Array.getD_eq_getD_getElem?, Array.getElem?_eq_none this] at hk
      simp at hk
    | some o =>
      have := List.all_eq_true.1 hm j (List.mem_range.2 (Array.getElem?_eq_some_iff.1 ho).1)
      rw [ho] at this
      simp only [beq_iff_eq] at this
      rw [this] at hk
      rcases fold_bit ms k _ _ hk with h | ⟨e, he, hbd, h⟩
      · simp at h
      · have hlt := back_spec hb ho (e := e) (by simpa using he) hbd
        rcases h with rfl | h
        · exact hlt
        · exact Nat.lt_trans (ih _ hlt k h) hlt
theorem masks_size (ops : Array Oper) : (masks ops).size ≤ ops.size := by
  unfold masks
  have : ∀ (l : List Oper) (x : Array Nat), (l.foldl (fun ms o => ms.push (o.after.toList.foldl (fun s e => if Region.binds .any e then s ||| 2 ^ e.on ||| ms.getD e.on 0 else s) 0)) x).size = x.size + l.length := by
    intro l
    induction l with
    | nil => intro x; rfl
    | cons o l ih => intro x; simp only [List.foldl_cons, ih, Array.size_push, List.length_cons]; omega
  rw [this]
  simp
theorem range'_ready (hb : backOk ops = true) {i : Nat} (hi : i < ops.size) : i ∈ readyA ops (List.range' i (ops.size - i)) := by
  rw [mem_readyA]
  refine ⟨by simp [List.mem_range'_1]; omega, ops[i], by simp [hi], fun e he hbd hm => ?_⟩
  have := back_spec hb (i := i) (o := ops[i]) (by simp [hi]) he hbd
  simp [List.mem_range'_1] at hm
  omega
theorem AAny_of_AR (hB : BOK E B) (hd : ops.all (dstOk B.N) = true) (hb : backOk ops = true) (hr : regOk E ops = true) {K : St → Prop} : ∀ (n i : Nat) (s : St), i + n = ops.size → Live B s → AR E ops (ops.toList.drop i) K s → AAny E ops n (List.range' i n) K s
  | 0, i, s, hn, hL, h => by
    have : ops.toList.drop i = [] := by simp; omega
    rw [this] at h
    exact ⟨rfl, h⟩
  | n + 1, i, s, hn, hL, h => by
    have hr' := hr
    simp only [regOk, Bool.and_eq_true] at hr'
    obtain ⟨hm, hf⟩ := hr'
    have hlt : i < ops.size := by omega
    have hU : List.range' i (ops.size - i) = List.range' i (n + 1) := by rw [show ops.size - i = n + 1 by omega]
    have hw : without (List.range' i (n + 1)) i = List.range' (i + 1) n := by
      rw [List.range'_succ]
      unfold without
      rw [List.filter_cons]
      simp only [bne_self_eq_false, Bool.false_eq_true, if_false]
      rw [List.filter_eq_self]
      intro j hj
      simp [List.mem_range'_1] at hj
      simp
      omega
    refine AAny_take hB hd hm n _ s (hU ▸ range'_ready hb hlt) ?_ (fun j k hj hk hkU => ?_) hL ?_
    · exact hU ▸ List.all_eq_true.1 hf i (List.mem_range.2 hlt)
    · have h1 := mask_lt hb hm (masks_size ops) j k hk
      simp only [List.mem_range'_1] at hj hkU
      have : j < i ∨ i + (n + 1) ≤ j := by omega
      rcases this with h | h
      · omega
      · have : (masks ops).size ≤ j := Nat.le_trans (masks_size ops) (by omega)
        rw [Array.getD_eq_getD_getElem?, Array.getElem?_eq_none this] at hk
        simp at hk
    · rw [hw]
      have hlt' : i < ops.toList.length := by simpa using hlt
      rw [List.drop_eq_getElem_cons hlt'] at h
      simp only [AR] at h
      have ho : ops[i]? = some ops.toList[i] := by simp [hlt]
      rw [AI_some ho]
      exact AT_mono hB hL (dst_of hd ho) (fun s' hL' hx => AAny_of_AR hB hd hb hr n (i + 1) s' (by omega) hL' hx) h
/-- Calls of these functions alone are given blocks. -/
def Ctx.lim (E : Ctx) (gs : Nat → Bool) : Ctx := ⟨E.P, E.tt, E.gv, E.htt, E.mixed, gs⟩
variable {gs : Nat → Bool} (hgs : ∀ g, gs g = true → E.give g = true)
theorem shut_fits (h : Hp) : ∀ (ps : List (Nat × D)) (pl : List (Nat × Nat)), fits (E.lim gs) h ps pl = fits E h ps pl
  | [], _ => rfl
  | (i, d) :: r, pl => by
    simp only [fits, shut_fits h r pl]
    rfl
theorem shut_pv (s : St) (op : Op) : pv (E.lim gs) s op = pv E s op := by
  cases op <;> try rfl
  case build t ps =>
    obtain ⟨ps⟩ := ps
    simp only [pv, shut_fits]
    rfl
  case makeFunc fn first cap => obtain ⟨first⟩ := first; obtain ⟨cap⟩ := cap; cases fn <;> cases first <;> rfl
  case slice t x lo hi mx => cases mx <;> rfl
  case call c =>
    obtain ⟨callee, ⟨args⟩, ⟨tys⟩⟩ := c
    cases callee with
    | value f => rfl
    | invoke r n => rfl
    | builtin bi =>
      cases bi <;> try rfl
      all_goals (match args, tys with
        | [], _ => rfl
        | [_], [] => rfl
        | [_], [_] => rfl
        | [_], _ :: _ :: _ => rfl
        | [_, _], _ => rfl
        | _ :: _ :: _ :: _, _ => rfl)
theorem shut_ef (s : St) (op : Op) (K : D → St → Prop) : ef (E.lim gs) s op K = ef E s op K := by
  cases op <;> rfl
include hgs in
theorem shut_call {g : FuncId} {ds : List D} {K : St → Prop} {s : St} {dst : Option Nat} (h : CallX (E.lim gs) g ds K s dst) : CallX E g ds K s dst := by
  rcases h with ⟨bs, d, h', h0, h1, h2, h3⟩ | h
  · exact .inl ⟨bs, d, h', h0.imp_left (hgs g), h1, h2, h3⟩
  · exact .inr h
include hgs in
theorem shut_AX {o : Oper} {K : St → Prop} {s : St} (h : AX (E.lim gs) o K s) : AX E o K s := by
  by_cases hc : ∃ f xs ts, o.op = .call { callee := .value f, args := ⟨xs⟩, argTypes := ts }
  · obtain ⟨f, xs, ts, ho⟩ := hc
    unfold AX at h ⊢
    rw [ho] at h ⊢
    simp only at h ⊢
    have e : ev (E.lim gs) s = ev E s := rfl
    rw [e] at h
    cases hf : ev E s f <;> rw [hf] at h <;> first | exact shut_call hgs h | exact h.elim
  · have e : ∀ E' : Ctx, AX E' o K s = ork (pv E' s o.op) (KP K s o.dst) (ef E' s o.op (KT K o.dst)) := fun E' => by
      unfold AX
      split
      · rename_i f xs ts ho
        exact (hc ⟨_, _, _, ho⟩).elim
      · rfl
    rw [e] at h ⊢
    rw [shut_pv, shut_ef] at h
    exact h
include hgs in
theorem shut_AT {o : Oper} {K : St → Prop} {s : St} (h : AT (E.lim gs) ops o K s) : AT E ops o K s := by
  unfold AT at h ⊢
  cases hg : o.guard with
  | none => rw [hg] at h; exact shut_AX hgs h
  | some q =>
    obtain ⟨g, want⟩ := q
    rw [hg] at h
    simp only at h ⊢
    cases ht : (ops[g]?).bind (·.dst) with
    | none => rw [ht] at h; exact h
    | some t =>
      rw [ht] at h
      simp only at h ⊢
      cases hb : s.e t <;> rw [hb] at h <;> first | exact ⟨fun e => shut_AX hgs (h.1 e), h.2⟩ | exact h
include hgs in
theorem AT_weak {o : Oper} (hB : BOK E B) {s : St} (hL : Live B s) (hd : dstOk B.N o = true) {K K' : St → Prop} (hK : ∀ s', Live B s' → K s' → K' s') (h : AT (E.lim gs) ops o K s) : AT E ops o K' s :=
  shut_AT hgs (AT_mono (E := (E.lim gs)) (B := B) hB hL hd hK h)
include hgs in
theorem shut_AAny (hB : BOK E B) (hd : ops.all (dstOk B.N) = true) {K : St → Prop} : ∀ (n : Nat) (U : List Nat) (s : St), Live B s → AAny (E.lim gs) ops n U K s → AAny E ops n U K s
  | 0, U, s, _, h => h
  | n + 1, U, s, hL, h => ⟨h.1, fun i hi => by
    have := h.2 i hi
    unfold AI at this ⊢
    cases ho : ops[i]? with
    | none => rw [ho] at this; exact shut_AAny hB hd n _ s hL this
    | some o =>
      rw [ho] at this
      exact AT_weak hgs hB hL (dst_of hd ho) (fun s' hL' hx => shut_AAny hB hd n _ s' hL' hx) this⟩
/-- A drawn region whose operations may change places: in the order of the text. -/
theorem AReg_give {K : St → Prop} {s : St} (hr : regOk E ops = true) (h : AR E ops ops.toList K s) : AReg E ops true K s := by
  unfold AReg
  rw [if_pos rfl]
  intro B hB hd hb hL
  have := AAny_of_AR (K := K) hB hd hb hr ops.size 0 s (by omega) hL (by simpa using h)
  rwa [← List.range_eq_range'] at this
include hgs in
theorem AReg_good {K : St → Prop} {s : St} (hr : regOk (E.lim gs) ops = true) (h : AR (E.lim gs) ops ops.toList K s) : AReg E ops true K s := by
  unfold AReg
  rw [if_pos rfl]
  intro B hB hd hb hL
  have := AAny_of_AR (E := (E.lim gs)) (K := K) hB hd hb hr ops.size 0 s (by omega) hL (by simpa using h)
  rw [← List.range_eq_range'] at this
  exact shut_AAny hgs hB hd _ _ _ hL this
theorem AReg_text {K : St → Prop} {s : St} : AReg E ops false K s ↔ AR E ops ops.toList K s := by simp [AReg]

variable {Q : Exit → Act → World → Prop}
theorem any_sound (hB : BOK E B) {rd : Option Nat} (hd : ops.all (dstOk B.N) = true) (hb : backOk ops = true) {K : St → Prop} (hK : ∀ s' φ' S' a' w', Rel B s' φ' S' a' w' → K s' → Q .normal a' w') :
    ∀ (n : Nat) (listed : Array Bool) (U : List Nat) (s : St) (φ : Ph) (S : Nat → Prop) (a : Act) (w : World), listed.size = ops.size → (∀ i, i ∈ U ↔ i < ops.size ∧ listed.getD i true = false) → Rel B s φ S a w → AAny E ops n U K s → wpAnyIn (WF rd) 0 E.P .any ops Q n listed a w := by
  have same : ∀ (listed : Array Bool) (U : List Nat), listed.size = ops.size → (∀ i, i ∈ U ↔ i < ops.size ∧ listed.getD i true = false) → ∀ i, i ∈ Region.ready .any ops listed ↔ i ∈ readyA ops U := by
    intro listed U hs hU i
    rw [mem_ready, mem_readyA, hU]
    constructor
    · rintro ⟨h1, o, h2, h3⟩
      refine ⟨⟨(Array.getElem?_eq_some_iff.1 h2).1, h1⟩, o, h2, fun e he hbd hm => ?_⟩
      have h4 := h3 e he hbd
      have h5 := ((hU e.on).1 hm)
      rw [Array.getD_eq_getD_getElem?, Array.getElem?_eq_getElem (by omega)] at h4
      have h6 := h5.2
      rw [Array.getD_eq_getD_getElem?, Array.getElem?_eq_getElem (by omega)] at h6
      simp_all
    · rintro ⟨h1, o, h2, h3⟩
      refine ⟨h1.2, o, h2, fun e he hbd => ?_⟩
      have hlt := back_spec hb h2 he hbd
      have h4 := h3 e he hbd
      rw [hU] at h4
      have h5 : e.on < listed.size := by omega
      rw [Array.getD_eq_getD_getElem?, Array.getElem?_eq_getElem h5]
      rw [Array.getD_eq_getD_getElem?, Array.getElem?_eq_getElem h5] at h4
      simp only [Option.getD_some] at h4 ⊢
      have : e.on < ops.size := by omega
      simp_all
  intro n
  induction n with
  | zero =>
    intro listed U s φ S a w hs hU hr h
    obtain ⟨rfl, h⟩ := h
    refine ⟨?_, hK _ _ _ _ _ hr h⟩
    cases hx : Region.ready .any ops listed with
    | nil => rfl
    | cons i r =>
      have := (same listed [] hs hU i).1 (by rw [hx]; simp)
      simp [readyA] at this
  | succ n ih =>
    intro listed U s φ S a w hs hU hr h
    refine ⟨fun e => hK _ _ _ _ _ hr (h.1 ?_), fun i hi => ?_⟩
    · cases hx : readyA ops U with
      | nil => rfl
      | cons i r =>
        have := (same listed U hs hU i).2 (by rw [hx]; simp)
        rw [e] at this
        cases this
    · have hi' := (same listed U hs hU i).1 hi
      obtain ⟨hiU, o, ho, _⟩ := mem_readyA.1 hi'
      have h2 := h.2 i hi'
      rw [AI_some ho] at h2
      refine AT_op hB hr ho (dst_of hd ho) (fun s' φ' S' a' w' hr' h' => ?_) h2
      refine ih (listed.setIfInBounds i true) (without U i) s' φ' S' a' w' (by simpa using hs) (fun j => ?_) hr' h'
      rw [mem_without, hU]
      by_cases hji : j = i
      · subst hji
        have : j < listed.size := by rw [hs]; exact ((hU j).1 hiU).1
        simp [Array.getD_eq_getD_getElem?, Array.getElem?_setIfInBounds_self_of_lt this]
      · rw [getD_set_ne true (Ne.symm hji)]
        simp [hji]
/-- A region. -/
theorem AReg_sound (hB : BOK E B) {rd : Option Nat} (hd : ops.all (dstOk B.N) = true) (hb : backOk ops = true) {id : Nat} {draw : Bool} {K : St → Prop} (hK : ∀ s' φ' S' a' w', Rel B s' φ' S' a' w' → K s' → Q .normal a' w')
    {s : St} {φ : Ph} {S : Nat → Prop} {a : Act} {w : World} (hr : Rel B s φ S a w) (h : AReg E ops draw K s) : (Code.region id ops draw).wpIn (WF rd) 0 E.P Q a w := by
  cases draw with
  | false =>
    rw [AReg_text] at h
    refine wpIn_region ?_
    rw [List.range_eq_range']
    exact AR_text hB hd hK ops.size 0 s φ S a w (by omega) hr (by simpa using h)
  | true =>
    unfold AReg at h
    rw [if_pos rfl] at h
    refine wpIn_region_any E.mixed ?_
    have hr' := hr.drawn (w.drawn + 1)
    exact any_sound hB hd hb hK ops.size _ (List.range ops.size) s φ S a _ (by simp) (fun i => by
      rw [List.mem_range]
      refine ⟨fun h => ⟨h, by simp [Array.getD_eq_getD_getElem?, h]⟩, fun h => h.1⟩) hr' (h B hB hd hb ⟨_, _, _, _, hr'⟩)
end

end Go.Proofs.YtmcinfbckdiaoaaGreatDoor.Lv

set_option linter.unusedVariables false
set_option linter.unusedSimpArgs false
namespace Go.Proofs.YtmcinfbckdiaoaaGreatDoor.Lv
open Go Go.RowKit

/-- The state is also so. -/
def Wk (n : Nat) (s s' : St) : Prop := ∀ B φ S a w, mx B.h0 ≤ n → Rel B s φ S a w → ∃ φ' S', Rel B s' φ' S' a w
theorem Wk.refl (n : Nat) (s : St) : Wk n s s := fun B φ S a w _ h => ⟨φ, S, h⟩
theorem Wk.trans {n : Nat} {s s' s'' : St} (h : Wk n s s') (h' : Wk n s' s'') : Wk n s s'' := fun B φ S a w hn hr => let ⟨φ', S', hr'⟩ := h B φ S a w hn hr; h' B φ' S' a w hn hr'

/-- No row of it is read only. -/
def noFz : Hp → Bool
  | [] => true
  | (_, .var ..) :: r => noFz r
  | (_, .row fz ..) :: r => !fz && noFz r
/-- The blocks of the one are known in the other. -/
def kn (h h' : Hp) : Bool := h.all fun p => (lookB h' p.1).isSome
/-- What is new is new. -/
def Frs (h : Hp) (nx : Nat) (h' : Hp) (nx' : Nat) : Prop := (h'.all fun p => (lookB h p.1).isSome || decide (nx ≤ p.1)) = true ∧ nx ≤ nx'
/-- A walk went on so: nothing has been forgotten, what is new is new. -/
def Onw (h : Hp) (nx : Nat) (h' : Hp) (nx' : Nat) : Prop := kn h h' = true ∧ Frs h nx h' nx'
theorem noFz_spec : ∀ {h : Hp}, noFz h = true → ∀ b fz ver ag sz n f, lookB h b = some (.row fz ver ag sz n f) → fz = false
  | (j, .var ..) :: r, h, b, fz, ver, ag, sz, n, f, hl => by
    simp only [noFz] at h
    simp only [lookB] at hl
    split at hl
    · cases hl
    · exact noFz_spec h b fz ver ag sz n f hl
  | (j, .row fz' ..) :: r, h, b, fz, ver, ag, sz, n, f, hl => by
    simp only [noFz, Bool.and_eq_true, Bool.not_eq_true'] at h
    simp only [lookB] at hl
    split at hl
    · cases hl; exact h.1
    · exact noFz_spec h.2 b fz ver ag sz n f hl
theorem look_mem : ∀ {h : Hp} {b : Nat} {x : Blk}, lookB h b = some x → (b, x) ∈ h
  | (j, z) :: r, b, x, hl => by
    simp only [lookB] at hl
    split at hl
    · rename_i e; subst e; cases hl; simp
    · exact List.mem_cons_of_mem _ (look_mem hl)
theorem kn_spec {h h' : Hp} (hk : kn h h' = true) {b : Nat} {x : Blk} (hl : lookB h b = some x) : (lookB h' b).isSome = true := List.all_eq_true.1 hk _ (look_mem hl)
theorem mx_le {h : Hp} {n : Nat} (hn : ∀ b x, lookB h b = some x → b < n) : ∀ {h' : Hp}, (∀ b x, (b, x) ∈ h' → (lookB h b).isSome = true) → mx h' ≤ n
  | [], _ => by simp [mx]
  | (i, y) :: r, hm => by
    obtain ⟨x, hx⟩ := Option.isSome_iff_exists.1 (hm i y (by simp))
    have h1 := hn i x hx
    have h2 := mx_le hn (h' := r) fun b x hb => hm b x (List.mem_cons_of_mem _ hb)
    simp only [mx]
    omega
theorem mem_look : ∀ {h : Hp} {b : Nat} {x : Blk}, (b, x) ∈ h → (lookB h b).isSome = true
  | (j, z) :: r, b, x, hm => by
    simp only [lookB]
    split
    · rfl
    · rcases List.mem_cons.1 hm with e | hm
      · cases e; rename_i hn; exact (hn rfl).elim
      · exact mem_look hm
theorem HpOn.known {H H' : Hp} {φ φ' : Ph} (h : HpOn H φ H' φ') (hk : kn H H' = true) : HpExt H φ H' φ' := fun b => by
  cases hl : lookB H b with
  | none => exact ⟨fun ag sz d e => (by cases e), fun fz ver ag sz m f e => (by cases e)⟩
  | some x => rw [← hl]; exact h b (kn_spec hk hl)

section
variable {B : Base} {s : St} {φ : Ph} {S : Nat → Prop} {a : Act} {w : World}
/-- Blocks turn, or come, of which nothing is told. -/
theorem Rel.other (hr : Rel B s φ S a w) {a' : Act} {w' : World} (ht : a'.tmps = a.tmps) (h1 : w'.os = w.os) (h2 : w'.tape = w.tape) (h3 : w'.output = w.output) (hsz : w.heap.size ≤ w'.heap.size)
    (hk : ∀ c, c < w.heap.size → (S c ∨ c < B.w0.heap.size ∨ ∃ b x t, lookB s.h b = some x ∧ φ b = some (c, t)) → w'.heap[c]? = w.heap[c]?) (hd : Marked B.n0 s.h φ S w' a'.defers) : Rel B s φ S a' w' := by
  have hkk : Kept S w w' := fun b hb => hk b (hr.slt b hb) (.inl hb)
  refine ⟨fun i => ht ▸ RepV.mono (HpExt.refl _ _) hkk (fun _ h => h) _ _ (hr.env i), ht ▸ hr.size, ⟨fun b x hl => BlkAt.move (HpExt.refl _ _) hkk (fun _ h => h) rfl (fun c t hp => hk c (hr.plt b x c t hl hp) (.inr (.inr ⟨b, x, t, hl, hp⟩))) (fun _ _ _ h => h) (hr.hp.blk b x hl), hr.hp.inj⟩, hr.nx, fun b h => Nat.lt_of_lt_of_le (hr.slt b h) hsz,
    fun b x c t hl hp => Nat.lt_of_lt_of_le (hr.plt b x c t hl hp) hsz, hr.old, hr.s0, hr.s1, ⟨h1.trans hr.below.os, h2.trans hr.below.tape, h3.trans hr.below.output, Nat.le_trans hr.below.size hsz, fun k hlt hG => (hk k (Nat.lt_of_lt_of_le hlt hr.below.size) (.inr (.inl hlt))).trans (hr.below.block k hlt hG)⟩, hr.ext, hr.nx0, hd⟩
/-- What a part of the walk begins with, all own blocks given. -/
def Base.sub (B : Base) (w : World) (S : Nat → Prop) (h : Hp) (φ : Ph) : Base := ⟨w, S, GB h φ, B.N, h, φ, 0⟩
theorem Rel.inner (hr : Rel B s φ S a w) {w2 : World} (hs2 : w2.heap.size = w.heap.size) (hsame : ∀ c, (S c ∨ GB s.h φ c) → w2.heap[c]? = w.heap[c]?) {e : Nat → D} {a' : Act} (he : ∀ t, RepV s.h φ S w (e t) (a'.tmps.getD t undef)) (hs : a'.tmps.size = B.N) (hd : Marked 0 s.h φ S w2 a'.defers) : Rel (B.sub w2 S s.h φ) ⟨e, s.h, s.nx⟩ φ S a' w2 := by
  have hk2 : Kept S w w2 := fun c hc => hsame c (.inl hc)
  exact ⟨fun t => RepV.mono (HpExt.refl _ _) hk2 (fun _ h => h) _ _ (he t), hs, ⟨fun b x hl => BlkAt.move (HpExt.refl _ _) hk2 (fun _ h => h) rfl (fun c t hp => hsame c (.inr ⟨b, x, t, hl, hp⟩)) (fun _ _ _ h => h) (hr.hp.blk b x hl), hr.hp.inj⟩, hr.nx, fun b hb => hs2 ▸ hr.slt b hb, fun b x c t hl hp => hs2 ▸ hr.plt b x c t hl hp,
    fun b x c t hl hp => .inr ⟨b, x, t, hl, hp⟩, fun _ h => h, fun _ h _ => .inl h, ⟨rfl, rfl, rfl, Nat.le_refl _, fun _ _ _ => rfl⟩, HpOn.refl _ _, mx_le hr.nx fun b x hm => mem_look hm, hd⟩
theorem Rel.notS (hr : Rel B s φ S a w) (hz : noFz s.h = true) {c : Nat} (hg : GB s.h φ c) : ¬ S c := by
  obtain ⟨b, x, t, hl, hp⟩ := hg
  have hb := hr.hp.blk b x hl
  cases x with
  | var ag sz d =>
    obtain ⟨c', t', g1, g2, _⟩ := hb
    rw [hp] at g1
    cases g1
    exact g2
  | row fz ver ag sz n f => exact (hb.2 c t hp).1 (noFz_spec hz _ _ _ _ _ _ _ hl)
theorem Marked.putObj {n0 : Nat} {h : Hp} {ds : List Deferred} (hm : Marked n0 h φ S w ds) {l : Nat} {r : Loop} (hl : w.heap[l]? = some (.loop r)) (o : Obj) : Marked n0 h φ S (w.putObj l o) ds := by
  obtain ⟨Ds, e, hn, hD⟩ := hm
  refine ⟨Ds, e, hn, fun D hd => ?_⟩
  obtain ⟨h1, h2, h3, h4⟩ := hD D hd
  exact ⟨(World.putObj_heap_other (fun e => by subst e; rw [hl] at h1; cases h1)).trans h1, h2, h3, h4⟩
theorem Rel.putObj (hr : Rel B s φ S a w) {l : Nat} {r : Loop} (hl : w.heap[l]? = some (.loop r)) (o : Obj) (h1 : ¬ S l) (h2 : ¬ GB s.h φ l) (h3 : B.w0.heap.size ≤ l) : Rel B s φ S a (w.putObj l o) := by
  refine hr.other rfl rfl rfl rfl (by simp) (fun c hc h => World.putObj_heap_other fun e => ?_) (hr.def0.putObj hl o)
  subst e
  rcases h with h | h | ⟨b, x, t, hl, hp⟩
  · exact h1 h
  · omega
  · exact h2 ⟨b, x, t, hl, hp⟩
theorem Rel.stays {B0 : Base} {w0 : World} {h : Hp} {s1 : St} {φ1 : Ph} {S1 : Nat → Prop} {a1 : Act} {w1 : World} (h1 : Rel (B0.sub w0 S h φ) s1 φ1 S1 a1 w1) {l : Nat} (hl : l < w0.heap.size) (hS : ¬ S l) (hG : ¬ GB h φ l) : ¬ S1 l ∧ ¬ GB s1.h φ1 l ∧ w1.heap[l]? = w0.heap[l]? := by
  refine ⟨fun hs => ?_, fun ⟨b, x, t, hb, hp⟩ => ?_, h1.below.block l hl hG⟩
  · rcases h1.s1 l hs hl with g | g
    · exact hS g
    · exact hG g
  · rcases h1.old b x l t hb hp with g | g
    · exact Nat.lt_irrefl _ (Nat.lt_of_lt_of_le hl g)
    · exact hG g
theorem var_one (hp : HpAt s.h φ S w) {b c t : Nat} {x : D} (hl : lookB s.h b = some (.var false 1 x)) (hpc : φ b = some (c, t)) : ∃ y, w.cell? ⟨c, 0, none⟩ = some y ∧ RepV s.h φ S w x y := by
  obtain ⟨c2, t2, g1, g2, y, vs, ty, lo, hi, g3, g4, g5, g6, g7⟩ := hp.blk b _ hl
  rw [hpc] at g1
  cases g1
  simp only [Cells, Bool.false_eq_true, if_false] at g6
  subst g6
  have := At.of_heap g3 g5.2 0 y rfl
  exact ⟨y, by simpa using this.1, g7⟩
theorem Frs.spec {h h' : Hp} {nx nx' : Nat} (hf : Frs h nx h' nx') {b : Nat} (hb : (lookB h' b).isSome = true) : (lookB h b).isSome = true ∨ nx ≤ b := by
  obtain ⟨x, hx⟩ := Option.isSome_iff_exists.1 hb
  have h2 := List.all_eq_true.1 hf.1 _ (look_mem hx)
  simpa only [Bool.or_eq_true, decide_eq_true_eq] using h2
theorem Frs.trans {h h' h'' : Hp} {nx nx' nx'' : Nat} (hf : Frs h nx h' nx') (hf' : Frs h' nx' h'' nx'') : Frs h nx h'' nx'' := by
  refine ⟨List.all_eq_true.2 fun p hp => ?_, Nat.le_trans hf.2 hf'.2⟩
  simp only [Bool.or_eq_true, decide_eq_true_eq]
  rcases hf'.spec (mem_look (x := p.2) hp) with h | h
  · exact hf.spec h
  · exact .inr (Nat.le_trans hf.2 h)
/-- Behind a part of the walk. -/
theorem Rel.up (hr : Rel B s φ S a w) (hz : noFz s.h = true) {s1 : St} {φ1 : Ph} {S1 : Nat → Prop} {a1 : Act} {w0 w1 w2 : World} (hf : Frs s.h s.nx s1.h s1.nx) (h1 : Rel (B.sub w0 S s.h φ) s1 φ1 S1 a1 w1) (h0 : w0.heap.size = w.heap.size) (hs : w2.heap.size = w1.heap.size)
    (ho : w2.os = w.os) (ht : w2.tape = w.tape) (hout : w2.output = w.output) (hkeep : ∀ c, c < w.heap.size → ¬ GB s.h φ c → w2.heap[c]? = w.heap[c]?) (hsame : ∀ c, (S1 c ∨ GB s1.h φ1 c) → w2.heap[c]? = w1.heap[c]?)
    {e : Nat → D} (he : ∀ i, RepV s1.h φ1 S1 w2 (e i) (a.tmps.getD i undef)) : Rel B ⟨e, s1.h, s1.nx⟩ φ1 S1 a w2 := by
  have gb : ∀ c, GB s.h φ c → B.w0.heap.size ≤ c ∨ B.G c := fun c ⟨b, x, t, hl, hp⟩ => hr.old b x c t hl hp
  have hsz : w.heap.size ≤ w1.heap.size := h0 ▸ h1.below.size
  have hk2 : Kept S1 w1 w2 := fun c hc => hsame c (.inl hc)
  refine ⟨he, hr.size, ⟨fun b x hl => BlkAt.move (HpExt.refl _ _) hk2 (fun _ h => h) rfl (fun c t hp => hsame c (.inr ⟨b, x, t, hl, hp⟩)) (fun _ _ _ h => h) (h1.hp.blk b x hl), h1.hp.inj⟩, h1.nx, fun b hb => hs ▸ h1.slt b hb, fun b x c t hl hp => hs ▸ h1.plt b x c t hl hp, fun b x c t hl hp => ?_, fun b hb => h1.s0 b (hr.s0 b hb), fun b hb hlt => ?_, ?_, ?_, ?_, ?_⟩
  · rcases h1.old b x c t hl hp with g | g
    · exact .inl (Nat.le_trans hr.below.size (h0 ▸ g))
    · exact gb c g
  · rcases h1.s1 b hb (h0 ▸ Nat.lt_of_lt_of_le hlt hr.below.size) with g | g
    · exact hr.s1 b g hlt
    · rcases gb b g with g | g
      · omega
      · exact .inr g
  · refine ⟨ho.trans hr.below.os, ht.trans hr.below.tape, hout.trans hr.below.output, hs ▸ Nat.le_trans hr.below.size hsz, fun k hk hG => ?_⟩
    refine (hkeep k (Nat.lt_of_lt_of_le hk hr.below.size) fun g => ?_).trans (hr.below.block k hk hG)
    rcases gb k g with g | g
    · omega
    · exact hG g
  · intro b hb
    have hcase : (lookB B.h0 b).isSome = true → (lookB s.h b).isSome = true := fun h0' => by
      rcases hf.spec hb with g | g
      · exact g
      · obtain ⟨y, hl0⟩ := Option.isSome_iff_exists.1 h0'
        have g1 := mx_lt hl0
        have g2 := hr.nx0
        omega
    have e1 := h1.ext b hb
    refine ⟨fun ag sz d hl => ?_, fun fz ver ag sz m f hl => ?_⟩
    · obtain ⟨⟨d1, g1⟩, g2⟩ := (hr.ext b (hcase (by rw [hl]; rfl))).1 ag sz d hl
      obtain ⟨⟨d2, g3⟩, g4⟩ := e1.1 ag sz d1 g1
      exact ⟨⟨d2, g3⟩, g4.trans g2⟩
    · obtain ⟨fz1, ver1, m1, f1, g1, v1, p1⟩ := (hr.ext b (hcase (by rw [hl]; rfl))).2 fz ver ag sz m f hl
      obtain ⟨fz2, ver2, m2, f2, g2, v2, p2⟩ := e1.2 _ _ _ _ _ _ g1
      refine ⟨fz2, ver2, m2, f2, g2, Nat.le_trans v1 v2, fun e3 => ?_⟩
      have a1 := p1 (by omega)
      have a2 := p2 (by omega)
      exact ⟨Nat.le_trans a1.1 a2.1, a2.2.trans a1.2⟩
  · exact Nat.le_trans hr.nx0 hf.2
  · refine hr.def0.move fun D hD hn hS ho => ?_
    have hnG : ¬ GB s.h φ D := fun ⟨b, x, t, hl, hp⟩ => ho b x D t hl hp rfl
    refine ⟨hkeep D hD hnG, fun h => ?_, fun b x c t hl hp e => ?_⟩
    · rcases h1.s1 D h (h0 ▸ hD) with g | g
      · exact hS g
      · exact hnG g
    · subst e
      rcases h1.old b x c t hl hp with g | g
      · exact Nat.lt_irrefl _ (Nat.lt_of_lt_of_le hD (h0 ▸ g))
      · exact hnG g
theorem Rel.keepE (hr : Rel B s φ S a w) (hz : noFz s.h = true) {s1 : St} {φ1 : Ph} {S1 : Nat → Prop} {a1 : Act} {w0 w1 w2 : World} (hk : kn s.h s1.h = true) (h1 : Rel (B.sub w0 S s.h φ) s1 φ1 S1 a1 w1) (hkeep : ∀ c, c < w.heap.size → ¬ GB s.h φ c → w2.heap[c]? = w.heap[c]?) :
    ∀ i, RepV s1.h φ1 S1 w2 (s.e i) (a.tmps.getD i undef) := fun i =>
  RepV.mono (h1.ext.known hk) (fun c hc => hkeep c (hr.slt c hc) fun hg => hr.notS hz hg hc) (fun b hb => h1.s0 b hb) _ _ (hr.env i)
end

/-- slices.Backward's function: so often it calls yield, each time with an element as it stands then. -/
def BWC (P : Program) (f : FuncId) : Prop := fnOk P f = true ∧ ∀ (l bx N : Nat) (J : Nat → World → Prop) (Jx : World → Prop) (W : World), N ≤ 9223372036854775807 →
  (∃ a cap, W.cell? ⟨bx, 0, none⟩ = some (.slice a N cap)) →
  (∀ k W, k < N → J (k + 1) W → ∃ b o n cap x, W.cell? ⟨bx, 0, none⟩ = some (.slice (some ⟨b, o, none⟩) n cap) ∧ k < n ∧ W.cell? ⟨b, o + k, none⟩ = some x ∧ x.oneCell' = true ∧
    YieldAt (WF none) 0 P l #[.int .i64 k, x] W fun e W' => (e = .returned (.bool true) ∧ J k W') ∨ (e = .returned (.bool false) ∧ Jx W')) →
  J N W → CallsIn (WF none) 0 P f #[.func (.yield l) #[] #[], .pointer (some ⟨bx, 0, none⟩)] W fun e W' => (∃ v, e = .returned v) ∧ (J 0 W' ∨ Jx W')
/-- How long a slice is. -/
def slen (h : Hp) : D → Option Nat
  | .ro _ _ n _ => some n
  | .sl b ver _ n => match lookB h b with
    | some (.row _ ver' _ _ _ _) => if ver = ver' then some n else none
    | _ => none
  | .vs _ _ _ n => some n
  | .nils => some 0
  | _ => none
/-- An element of one cell. -/
def elt (h : Hp) (x : D) (k : Nat) : Option D := match x with
  | .ro false sz n f => if sz = 1 ∧ k < n then some (f k) else none
  | .sl b ver off n => match lookB h b with
    | some (.row _ ver' false sz _ f) => if ver = ver' ∧ sz = 1 ∧ k < n then some (f (off + k)) else none
    | _ => none
  | .vs b off esz n => match lookB h b with
    | some (.var ag sz d) => if esz = 1 ∧ k < n then (cellsOf ag d).bind fun cs => cs[off + k]? else none
    | _ => none
  | _ => none
section
variable {H : Hp} {φ : Ph} {S : Nat → Prop} {w : World}
theorem slen_sound {x : D} {v : Value} {n : Nat} (hx : RepV H φ S w x v) (hs : slen H x = some n) : ∃ a cap, v = .slice a n cap := by
  unfold slen at hs
  split at hs
  · cases hs
    simp only [RepV, Rep0] at hx
    obtain ⟨a, cap, e, _⟩ := hx
    exact ⟨a, cap, e⟩
  · split at hs
    · rename_i hl
      split at hs
      · rename_i e
        cases hs
        subst e
        simp only [RepV] at hx
        obtain ⟨fz', ver', ag', sz', m', f', hl', hv, hx⟩ := hx
        rw [hl] at hl'
        cases hl'
        obtain ⟨_, a, cap, e, _⟩ := hx rfl
        exact ⟨a, cap, e⟩
      · cases hs
    · cases hs
  · cases hs
    simp only [RepV] at hx
    obtain ⟨ag, sz, d, c, t, a, cap, _, _, e, _⟩ := hx
    exact ⟨a, cap, e⟩
  · cases hs
    simp only [RepV, Rep0] at hx
    exact ⟨_, _, hx⟩
  · cases hs
theorem cell_of {c : Nat} {vs : List Value} {e : TypeId} {fr : Nat × Nat} (h : w.heap[c]? = some (.cells ⟨vs⟩ e fr)) (h1 : ∀ y ∈ vs, y.oneCell' = true) {j : Nat} {y : Value} (hj : vs[j]? = some y) : w.cell? ⟨c, j, none⟩ = some y ∧ y.oneCell' = true := by
  have := At.of_heap h h1 j y hj
  simpa using this
theorem elt_sound (hp : HpAt H φ S w) {x : D} {v : Value} {k : Nat} {d : D} (hx : RepV H φ S w x v) (he : elt H x k = some d) :
    ∃ b o n cap y, v = .slice (some ⟨b, o, none⟩) n cap ∧ k < n ∧ w.cell? ⟨b, o + k, none⟩ = some y ∧ y.oneCell' = true ∧ RepV H φ S w d y := by
  unfold elt at he
  split at he
  · rename_i sz n f
    split at he
    · rename_i hc
      obtain ⟨rfl, hk⟩ := hc
      cases he
      simp only [RepV, Rep0] at hx
      obtain ⟨a, cap, e, hn, hcap, hx⟩ := hx
      obtain ⟨b, o, rfl, hb, hel⟩ := hx (by omega)
      obtain ⟨y, vs, g1, g2, g3, g4⟩ := hel k hk
      simp only [Cells, Bool.false_eq_true, if_false] at g3
      subst g3
      have := g2 0 y rfl
      simp only [Nat.mul_one, Nat.add_zero] at this
      exact ⟨b, o, n, cap, y, e, hk, this.1, this.2, Rep0.toV _ _ g4⟩
    · cases he
  · rename_i b ver off n
    split at he
    · rename_i fz ver' sz m f hl
      split at he
      · rename_i hc
        obtain ⟨rfl, rfl, hk⟩ := hc
        cases he
        simp only [RepV] at hx
        obtain ⟨fz', ver', ag', sz', m', f', hl', hv, hx⟩ := hx
        rw [hl] at hl'
        cases hl'
        obtain ⟨hm, a, cap, e, hn, ha0, ha1⟩ := hx rfl
        have hph : φ b ≠ none := fun e => by have := (ha0 e).2; omega
        obtain ⟨⟨c, tot⟩, hph⟩ := Option.ne_none_iff_exists'.1 hph
        obtain ⟨g1, g2, g3⟩ := ha1 c tot hph
        obtain ⟨_, _, k3, k4, vs, ty, lo, hi, k5, k6, k7, k8⟩ := (hp.blk b _ hl).2 c tot hph
        obtain ⟨y, c1, c2⟩ := k8 (off + k) (by omega)
        simp only [Cells, Bool.false_eq_true, if_false, Nat.mul_one] at c1
        have hlt : off + k < vs.length := by rw [k6]; omega
        rw [List.drop_eq_getElem_cons hlt] at c1
        simp only [List.take_succ_cons, List.take_zero, List.cons.injEq, and_true] at c1
        have := cell_of k5 k7.2 (j := off + k) (y := y) (by rw [List.getElem?_eq_getElem hlt, c1])
        refine ⟨c, off, n, cap, y, ?_, hk, this.1, this.2, Rep0.toV _ _ c2⟩
        rw [e, g3 (by omega), Nat.mul_one]
      · cases he
    · cases he
  · rename_i b off esz n
    split at he
    · rename_i ag sz d0 hl
      split at he
      · rename_i hc
        obtain ⟨rfl, hk⟩ := hc
        cases hcs : cellsOf ag d0 with
        | none => rw [hcs] at he; cases he
        | some cs =>
          rw [hcs] at he
          simp only [Option.bind_some] at he
          simp only [RepV] at hx
          obtain ⟨ag', sz', d', c, t, a, cap, hl', hp', e, hn, ha, hs⟩ := hx
          rw [hl] at hl'
          cases hl'
          obtain ⟨c2, t2, g1, g2, y, vs, ty, lo, hi, g3, g4, g5, g6, g7⟩ := hp.blk b _ hl
          rw [hp'] at g1
          cases g1
          have hcr := cells_rep g6 g7 hcs
          obtain ⟨z, hz1, hz2⟩ := hcr.get _ he
          have := cell_of g3 g5.2 hz1
          refine ⟨c, off, n, cap, z, ?_, hk, this.1, this.2, hz2⟩
          rw [e, ha (by omega)]
      · cases he
    · cases he
  · cases he
end
def thn (K : St → Prop) (Q : Exit → St → Prop) : Exit → St → Prop
  | .normal, s => K s
  | e, s => Q e s
def blk (id : Nat) (Q : Exit → St → Prop) : Exit → St → Prop
  | .exit i, s => if i = id then Q .normal s else Q (.exit i) s
  | e, s => Q e s
def cnd (d : D) (A B : Prop) : Prop := match d with
  | .bool b => (b = true → A) ∧ (b = false → B)
  | _ => False
/-- A loop. -/
inductive AL (F : (Exit → St → Prop) → St → Prop) (Q : Exit → St → Prop) : St → Prop where
  | inv (I : Nat → St → Prop) (n : Nat) (s s' : St) (h0 : Wk s.nx s s') (h : I n s') (round : ∀ n t, I n t → ∃ K : St → Prop, (∀ s', K s' → ∃ m, m < n ∧ ∃ s'', Wk s.nx s' s'' ∧ I m s'') ∧ F (thn K Q) t) : AL F Q s
  | unroll (R : St → Prop) (s : St) (h : F (thn R Q) s) (hR : ∀ s', R s' → AL F Q s') : AL F Q s

/-- What a round's end comes to. -/
def BGo (n0 : Nat) (I : Nat → St → Prop) (k : Nat) (t s : St) : Prop := Onw t.h t.nx s.h s.nx ∧ ∃ s', Wk n0 ⟨t.e, s.h, s.nx⟩ s' ∧ I k s'
def rnd (n0 : Nat) (I : Nat → St → Prop) (Q : Exit → St → Prop) (t : St) (k : Nat) : Exit → St → Prop
  | .normal, s => BGo n0 I k t s
  | .ret, s => Onw t.h t.nx s.h s.nx ∧ Q .ret ⟨t.e, s.h, s.nx⟩
  | .exit id, s => Onw t.h t.nx s.h s.nx ∧ Q (.exit id) ⟨t.e, s.h, s.nx⟩
  | _, _ => False
/-- Between the slots' assignment and the body. -/
def bmid (n0 : Nat) (I : Nat → St → Prop) (Q : Exit → St → Prop) (W : (Exit → St → Prop) → St → Prop) (t : St) (k : Nat) (s1 : St) : Prop :=
  noFz s1.h = true ∧ Onw t.h t.nx s1.h s1.nx ∧ W (rnd n0 I Q ⟨t.e, s1.h, s1.nx⟩ k) s1
def noQ : Exit → St → Prop := fun _ _ => False
/-- A range over slices.Backward: what its rounds keep, by how many are left. -/
def AB (E : Ctx) (g : Operand) (A W : (Exit → St → Prop) → St → Prop) (Q : Exit → St → Prop) (p q : Nat) (s : St) : Prop := ∃ s0, Wk s.nx s s0 ∧ noFz s0.h = true ∧ ∃ f bx, ev E s0 g = .fn f [.ad bx 0] ∧ BWC E.P f ∧
  ∃ x n, lookB s0.h bx = some (.var false 1 x) ∧ slen s0.h x = some n ∧ n ≤ 9223372036854775807 ∧ ∃ (I : Nat → St → Prop), I n s0 ∧ (∀ t, I 0 t → Q .normal t) ∧
      ∀ k t, I k t → Frs s0.h s0.nx t.h t.nx ∧ noFz t.h = true ∧ ∀ k', k' < n → k = k' + 1 → ∃ x d, lookB t.h bx = some (.var false 1 x) ∧ elt t.h x k' = some d ∧
        A (thn (bmid s0.nx I Q W t k') noQ) ⟨upd (upd t.e p (.int .i64 k')) q d, t.h, t.nx⟩
def noG : Nat → Bool := fun _ => false
/-- A region: in the order of the text, where its operations may change places (its calls being given blocks, or none being). -/
def AReg3 (E : Ctx) (ops : Array Oper) (draw : Bool) (K : St → Prop) (s : St) : Prop :=
  if (draw && !regOk E ops) = true then (if regOk (E.lim noG) ops = true then AR (E.lim noG) ops ops.toList K s else AReg E ops true K s) else AR E ops ops.toList K s
/-- WHAT CODE COMES TO. -/
def AW (E : Ctx) : Code → (Exit → St → Prop) → St → Prop
  | .skip, Q, s => Q .normal s
  | .region _ ops draw, Q, s => AReg3 E ops draw (Q .normal) s
  | .seq a b, Q, s => AW E a (thn (AW E b Q) Q) s
  | .cond c a b, Q, s => cnd (ev E s c) (AW E a Q s) (AW E b Q s)
  | .block id b, Q, s => AW E b (blk id Q) s
  | .loop b, Q, s => AL (AW E b) Q s
  | .exit id, Q, s => Q (.exit id) s
  | .ret, Q, s => Q .ret s
  | .rangeFunc g ⟨[p, q]⟩ a b, Q, s => AB E g (AW E a) (AW E b) Q p q s
  | _, _, _ => False
/-- It holds no range over a function. -/
def plainC : Code → Bool
  | .rangeFunc .. => false
  | .seq a b | .cond _ a b => plainC a && plainC b
  | .block _ b | .loop b => plainC b
  | _ => true
def codeOk (N : Nat) : Code → Bool
  | .region _ ops _ => ops.all (dstOk N) && backOk ops
  | .seq a b | .cond _ a b => codeOk N a && codeOk N b
  | .block _ b | .loop b => codeOk N b
  | .rangeFunc _ ⟨[p, q]⟩ a b => codeOk N a && codeOk N b && plainC a && plainC b && decide (p < N) && decide (q < N) && decide (p ≠ q)
  | _ => true

section
variable {E : Ctx} {B : Base}
/-- A loop's rounds from here on. -/
def Key (r : Option Nat) (P : Program) (b : Code) (Q : Exit → Act → World → Prop) (a : Act) (w : World) : Prop :=
  ∀ (fb : Frame) (k : List Item) (cs : List Frame), fb.roundOf = r → ∃ e a' w', Q e a' w' ∧ ArrivesIn (Machine.fenced P (WF r)) P (lone (fb.atR a (.code b :: .inLoop b :: k)) cs w) fb k cs e a' w'
theorem Key.step {r : Option Nat} {P : Program} {b : Code} {Q : Exit → Act → World → Prop} {a : Act} {w : World} {K : Act → World → Prop} (h : b.wpIn (WF r) 0 P (Exit.then K Q) a w) (hK : ∀ a w, K a w → Key r P b Q a w) : Key r P b Q a w := by
  intro fb k cs hro
  obtain ⟨e, a₁, w₁, hq, harr⟩ := h fb (.inLoop b :: k) cs hro trivial (WF.room _)
  cases e with
  | normal =>
    obtain ⟨e₂, a₂, w₂, hq₂, harr₂⟩ := hK _ _ hq fb k cs hro
    exact ⟨e₂, a₂, w₂, hq₂, .of_steps (StepsIn.trans harr (.one (fenced_calm (n := 0) trivial (WF.room _) rfl) stepR_inLoop)) harr₂⟩
  | exit id => exact ⟨_, a₁, w₁, hq, .pass (x := .inLoop b) rfl (fun _ _ => .inl (by simp)) harr⟩
  | goto l => exact ⟨_, a₁, w₁, hq, .pass (x := .inLoop b) rfl (fun _ _ => .inl (by simp)) harr⟩
  | ret => exact ⟨_, a₁, w₁, hq, .pass (x := .inLoop b) rfl (fun _ _ => .inl (by simp)) harr⟩
  | panic ch => exact ⟨_, a₁, w₁, hq, .pass (x := .inLoop b) rfl (fun _ _ => .inl (by simp)) harr⟩
  | outgrown => exact ⟨_, a₁, w₁, hq, .pass (x := .inLoop b) rfl (fun _ _ => .inl (by simp)) harr⟩
theorem AW_sound : ∀ (c : Code) (B : Base) (hB : BOK E B) (r : Option Nat) (hp : (r = none ∧ B.n0 ≤ B.w0.heap.size) ∨ plainC c = true) (Q : Exit → St → Prop) (Q' : Exit → Act → World → Prop) (s : St) (φ : Ph) (S : Nat → Prop) (a : Act) (w : World), codeOk B.N c = true →
    (∀ e s φ S a w, Rel B s φ S a w → Q e s → Q' e a w) → Rel B s φ S a w → AW E c Q s → c.wpIn (WF r) 0 E.P Q' a w
  | .skip, B, hB, r, hp, Q, Q', s, φ, S, a, w, ho, hQ, hr, h => wpIn_skip (hQ _ _ _ _ _ _ hr h)
  | .region id ops draw, B, hB, r, hp, Q, Q', s, φ, S, a, w, ho, hQ, hr, h => by
    simp only [codeOk, Bool.and_eq_true] at ho
    refine AReg_sound (K := Q .normal) hB ho.1 ho.2 (fun s' φ' S' a' w' hr' h' => hQ _ _ _ _ _ _ hr' h') hr ?_
    simp only [AW, AReg3] at h
    cases draw with
    | false => exact AReg_text.2 (by simpa using h)
    | true =>
      cases hk : regOk E ops with
      | true => rw [hk] at h; exact AReg_give hk (by simpa using h)
      | false =>
        rw [hk] at h
        simp only [Bool.not_false, Bool.and_true, if_true] at h
        split at h
        · rename_i hl; exact AReg_good (gs := noG) (fun g hg => by cases hg) hl h
        · exact h
  | .seq x y, B, hB, r, hp, Q, Q', s, φ, S, a, w, ho, hQ, hr, h => by
    simp only [codeOk, plainC, Bool.and_eq_true] at ho hp
    refine wpIn_seq (AW_sound x B hB r (hp.imp_right (·.1)) _ _ s φ S a w ho.1 (fun e s φ S a w hr h => ?_) hr h)
    cases e <;> first | exact AW_sound y B hB r (hp.imp_right (·.2)) Q Q' s φ S a w ho.2 hQ hr h | exact hQ _ _ _ _ _ _ hr h
  | .cond c x y, B, hB, r, hp, Q, Q', s, φ, S, a, w, ho, hQ, hr, h => by
    simp only [codeOk, plainC, Bool.and_eq_true] at ho hp
    simp only [AW] at h
    unfold cnd at h
    split at h
    · rename_i b hb
      have hev := hr.ev (hB.gok hr) c
      rw [hb] at hev
      simp only [RepV, Rep0] at hev
      refine wpIn_cond hev ?_
      cases b
      · exact AW_sound y B hB r (hp.imp_right (·.2)) Q Q' s φ S a w ho.2 hQ hr (h.2 rfl)
      · exact AW_sound x B hB r (hp.imp_right (·.1)) Q Q' s φ S a w ho.1 hQ hr (h.1 rfl)
    · exact h.elim
  | .block id b, B, hB, r, hp, Q, Q', s, φ, S, a, w, ho, hQ, hr, h => by
    refine wpIn_block (AW_sound b B hB r hp _ _ s φ S a w ho (fun e s φ S a w hr h => ?_) hr h)
    cases e with
    | exit i =>
      simp only [blk, Exit.inBlock] at h ⊢
      split at h
      · rename_i e; rw [if_pos e]; exact hQ _ _ _ _ _ _ hr h
      · rename_i e; rw [if_neg e]; exact hQ _ _ _ _ _ _ hr h
    | _ => exact hQ _ _ _ _ _ _ hr h
  | .loop b, B, hB, r, hp, Q, Q', s, φ, S, a, w, ho, hQ, hr, h => by
    simp only [codeOk] at ho
    simp only [AW] at h
    have body := fun Q Q' s φ S a w hQ hr h => AW_sound b B hB r hp Q Q' s φ S a w ho hQ hr h
    have key : ∀ {s}, AL (AW E b) Q s → ∀ φ S a w, Rel B s φ S a w → Key r E.P b Q' a w := by
      clear h hr
      intro s h
      induction h with
      | inv I n s s' h0 hI round =>
        intro φ S a w hr
        have hnx := hr.nx0
        obtain ⟨φ', S', hr'⟩ := h0 _ _ _ _ _ hnx hr
        have again : ∀ n s, I n s → ∀ φ S a w, Rel B s φ S a w → Key r E.P b Q' a w := by
          intro n
          induction n using Nat.strongRecOn with
          | _ n ih =>
            intro s hI φ S a w hr
            obtain ⟨K, hK, hrd⟩ := round n s hI
            refine Key.step (K := fun a w => Key r E.P b Q' a w) (body _ _ s φ S a w (fun e s φ S a w hr h => ?_) hr hrd) fun a w h => h
            cases e <;> first | exact hQ _ _ _ _ _ _ hr h | skip
            obtain ⟨m, hm, s'', h1, h2⟩ := hK _ h
            obtain ⟨φ'', S'', hr''⟩ := h1 _ _ _ _ _ hnx hr
            exact ih m hm s'' h2 _ _ _ _ hr''
        exact again n s' hI _ _ _ _ hr'
      | unroll R s h hR ih =>
        intro φ S a w hr
        refine Key.step (K := fun a w => Key r E.P b Q' a w) (body _ _ s φ S a w (fun e s φ S a w hr h => ?_) hr h) fun a w h => h
        cases e <;> first | exact ih s h _ _ _ _ hr | exact hQ _ _ _ _ _ _ hr h
    intro fb k cs hro _ _
    obtain ⟨e, a', w', hq, harr⟩ := key h φ S a w hr fb k cs hro
    exact ⟨e, a', w', hq, .of_steps (.one (fenced_calm (n := 0) trivial (WF.room _) rfl) stepR_loop) harr⟩
  | .scope .., _, _, _, _, _, _, _, _, _, _, _, _, _, _, h | .label .., _, _, _, _, _, _, _, _, _, _, _, _, _, _, h | .goto .., _, _, _, _, _, _, _, _, _, _, _, _, _, _, h | .refuse .., _, _, _, _, _, _, _, _, _, _, _, _, _, _, h => by simp only [AW] at h
  | .exit id, B, hB, r, hp, Q, Q', s, φ, S, a, w, ho, hQ, hr, h => wpIn_exit (hQ _ _ _ _ _ _ hr h)
  | .ret, B, hB, r, hp, Q, Q', s, φ, S, a, w, ho, hQ, hr, h => wpIn_ret (hQ _ _ _ _ _ _ hr h)
  | .rangeFunc g ⟨ps⟩ x y, B, hB, r, hp, Q, Q', s, φ, S, a, w, ho, hQ, hr, h => by
    match ps, h, ho with
    | [p, q], h, ho =>
      simp only [AW] at h
      simp only [codeOk, Bool.and_eq_true, decide_eq_true_eq] at ho
      obtain ⟨⟨⟨⟨⟨⟨hox, hoy⟩, hpx⟩, hpy⟩, hpN⟩, hqN⟩, hpq⟩ := ho
      obtain ⟨hrn, hn0⟩ := hp.resolve_right (by simp [plainC])
      subst hrn
      obtain ⟨s0, hwk, hz0, f, bx, hg0, hBW, x0, n, hl0, hsl, hn, I, hI0, hdone, hround⟩ := h
      obtain ⟨φ0, S0, hr0⟩ := hwk B φ S a w hr.nx0 hr
      clear hr
      have hev := hr0.ev (hB.gok hr0) g
      rw [hg0] at hev
      simp only [RepV, RepVs] at hev
      obtain ⟨_, hge, _, _, rfl, ⟨ag, sz, dd, c, t, hl0', hpc, rfl⟩, rfl⟩ := hev
      rw [hl0] at hl0'
      cases hl0'
      refine wpIn_rangeFunc ?_
      intro fn hfn
      obtain ⟨rec, hrec⟩ : ∃ rec : LoopState → Option Code → Loop, rec = fun st pe => { state := st, pending := pe, fn, tmps := a.tmps, params := #[p, q], assign := x, body := y, defers := w.heap.size } := ⟨_, rfl⟩
      obtain ⟨W1, hW1⟩ : ∃ W1, (w.alloc (.deferred (some []))).alloc (.loop (rec .ready none)) = W1 := ⟨_, rfl⟩
      obtain ⟨l, hl⟩ : ∃ l, l = w.heap.size + 1 := ⟨_, rfl⟩
      have hsz : W1.heap.size = w.heap.size + 2 := by rw [← hW1]; simp
      have hL1 : W1.heap[l]? = some (.loop (rec .ready none)) := by
        rw [← hW1, hl]; have := World.alloc_heap_new (w.alloc (.deferred (some []))) (.loop (rec .ready none)); rwa [World.size_alloc] at this
      have hK1 : W1.heap[w.heap.size]? = some (.deferred (some [])) := by
        rw [← hW1]; exact (Below.heap_alloc _ _ _ (by simp)).trans (World.alloc_heap_new w _)
      have hold : ∀ k, k < w.heap.size → W1.heap[k]? = w.heap[k]? := fun k hk => by
        rw [← hW1]; exact (Below.heap_alloc _ _ _ (by simp; omega)).trans (Below.heap_alloc _ _ _ hk)
      obtain ⟨a1, ha1⟩ : ∃ a1 : Act, a1 = { a with defers := { target := .collected w.heap.size, args := #[] } :: a.defers } := ⟨_, rfl⟩
      obtain ⟨a0, ha0⟩ : ∃ a0 : Act, a0 = { a with defers := [] } := ⟨_, rfl⟩
      have hr1 : Rel B s0 φ0 S0 a1 W1 := by
        refine hr0.other (by rw [ha1]) (by rw [← hW1]; rfl) (by rw [← hW1]; rfl) (by rw [← hW1]; rfl) (by omega) (fun k hk _ => hold k hk) ?_
        obtain ⟨Ds, e, hnd, hD⟩ := hr0.def0
        refine ⟨w.heap.size :: Ds, by rw [ha1]; simp [e], List.nodup_cons.2 ⟨fun hm => ?_, hnd⟩, fun D hm => ?_⟩
        · have := (Array.getElem?_eq_some_iff.1 (hD _ hm).1).1
          omega
        · rcases List.mem_cons.1 hm with rfl | hm
          · exact ⟨hK1, Nat.le_trans hn0 hr0.below.size, fun h => by have := hr0.slt _ h; omega, fun b x c t l p e => by have := hr0.plt b x c t l p; omega⟩
          · obtain ⟨h1, h2, h3, h4⟩ := hD D hm
            exact ⟨(hold D (Array.getElem?_eq_some_iff.1 h1).1).trans h1, h2, h3, h4⟩
      have hlS0 : ¬ S0 l := fun h => by have := hr0.slt _ h; omega
      have hlG0 : ¬ GB s0.h φ0 l := fun ⟨b, x, t, h1, h2⟩ => by have := hr0.plt b x l t h1 h2; omega
      have hrI : Rel (B.sub W1 S0 s0.h φ0) s0 φ0 S0 a0 W1 := hr1.inner rfl (fun _ _ => rfl) (e := s0.e) (a' := a0) (by rw [ha0]; have := hr1.env; rw [ha1] at this; exact this) (by rw [ha0]; exact hr0.size) (by rw [ha0]; exact Marked.nil _ _ _ _ _)
      have hB1 : BOK E (B.sub W1 S0 s0.h φ0) := ⟨hB.gok hr1, fun b hb => ⟨hr1.slt b hb, fun hg => hr1.notS hz0 hg hb⟩⟩
      have upB : ∀ {t : St} {φ' : Ph} {S' : Nat → Prop} {W : World}, Frs s0.h s0.nx t.h t.nx → Rel (B.sub W1 S0 s0.h φ0) t φ' S' a0 W → Rel B t φ' S' a1 W := fun hfr hrt =>
        hr1.up hz0 hfr hrt rfl rfl hrt.below.os hrt.below.tape hrt.below.output (fun c hc hg => hrt.below.block c hc hg) (fun _ _ => rfl) (by have := hrt.env; rw [ha0] at this; rw [ha1]; exact this)
      refine ⟨l, [{ target := .collected w.heap.size, args := #[] }], W1, { target := .fn (.func f) #[.pointer (some ⟨c, 0, none⟩)], args := #[.func (.yield l) #[] #[]] }, W1, f, #[.func (.yield l) #[] #[], .pointer (some ⟨c, 0, none⟩)], W1, ?_, ?_, ?_, ?_, (fun h => by cases h), ?_⟩
      · rw [← hW1, hrec, hl]; exact run_enterLoop_outer _ _ _ _ _
      · simp only [resolve, hge]
        simp [go_sem]
      · intro f' hf'; trivial
      · have := run_callFunc hBW.1 #[.func (.yield l) #[] #[], .pointer (some ⟨c, 0, none⟩)] W1
        simpa [invoke, go_sem] using this
      obtain ⟨y0, hc0, hv0⟩ := var_one hr1.hp hl0 hpc
      obtain ⟨ad0, cap0, rfl⟩ := slen_sound hv0 hsl
      refine (hBW.2 l c n (fun k W => ∃ t φ' S', I k t ∧ Rel (B.sub W1 S0 s0.h φ0) t φ' S' a0 W)
        (fun W => ∃ cc t φ' S', (∀ w4, Rel B t φ' S' a1 w4 → cc.wpIn (WF none) 0 E.P Q' a1 w4) ∧ Rel B t φ' S' a1 W ∧ W.heap[l]? = some (.loop (rec .done (some cc))) ∧ ¬ S' l ∧ ¬ GB t.h φ' l)
        W1 hn ⟨ad0, cap0, hc0⟩ ?_ ⟨s0, φ0, S0, hI0, hrI⟩).mono ?_
      · rintro k W hk ⟨t, φ', S', hIk, hrt⟩
        obtain ⟨hfr, hzt, hnext⟩ := hround (k + 1) t hIk
        obtain ⟨x', d, hlx, helt, hA⟩ := hnext k hk rfl
        have hpc' : φ' bx = some (c, _) := ((hrt.ext bx (by rw [hlx]; rfl)).1 _ _ _ hl0).2.trans hpc
        obtain ⟨v1, hcv, hvv⟩ := var_one hrt.hp hlx hpc'
        obtain ⟨b, o, n', cap, z, rfl, hk', hz1, hz2, hz3⟩ := elt_sound hrt.hp hvv helt
        refine ⟨b, o, n', cap, z, hcv, hk', hz1, hz2, ?_⟩
        have hWl : l < W.heap.size := Nat.lt_of_lt_of_le (by omega : l < W1.heap.size) hrt.below.size
        obtain ⟨hlS', hlG', hrdy⟩ := hrt.stays (l := l) (by omega) hlS0 hlG0
        have hrdy : W.heap[l]? = some (.loop (rec .ready none)) := hrdy.trans hL1
        have hy := run_yield (P := E.P) (args := #[.int .i64 k, z]) hrdy (by rw [hrec]; rfl)
        rw [hrec] at hy
        refine ⟨fn, _, x, y, hy, roundIn_of_wpIn hfn ?_⟩
        have hrp := (hrt.put (d := .int .i64 k) (v := .int .i64 k) (by simp [RepV, Rep0]) (dst := some p) (fun t e => by cases e; exact hpN)).put (d := d) (v := z) hz3 (dst := some q) (fun t e => by cases e; exact hqN)
        have hB2 : BOK E ((B.sub W1 S0 s0.h φ0).sub W S' t.h φ') := ⟨hB1.gok hrt, fun b hb => ⟨hrt.slt b hb, fun hg => hrt.notS hzt hg hb⟩⟩
        have htm : (Array.zip #[p, q] #[Value.int .i64 k, z]).foldl (fun tmps (x : Tmp × Value) => tmps.setIfInBounds x.1 x.2) a.tmps = (a.tmps.setIfInBounds p (.int .i64 k)).setIfInBounds q z := by
          simp
        have hrt2 : Rel ((B.sub W1 S0 s0.h φ0).sub W S' t.h φ') ⟨upd (upd t.e p (.int .i64 k)) q d, t.h, t.nx⟩ φ' S' { tmps := (a.tmps.setIfInBounds p (.int .i64 k)).setIfInBounds q z, defers := [] } W :=
          hrt.inner rfl (fun _ _ => rfl) (by have := hrp.env; rw [ha0] at this; exact this) (by have := hrp.size; rw [ha0] at this; exact this) (Marked.nil _ _ _ _ _)
        rw [← htm] at hrt2
        refine AW_sound x _ hB2 (some l) (.inr hpx) _ _ _ _ _ _ _ hox (fun e s1 φ1 S1 a1' w1 hr1' hq => ?_) hrt2 hA
        cases e <;> try exact hq.elim
        obtain ⟨hz1, hon, hW⟩ := hq
        obtain ⟨hlS1, hlG1, hw1⟩ := hr1'.stays (l := l) hWl hlS' hlG'
        have hrdy1 : w1.heap[l]? = some (.loop (rec .ready none)) := hw1.trans hrdy
        have hRA : Rel (B.sub W1 S0 s0.h φ0) ⟨t.e, s1.h, s1.nx⟩ φ1 S1 a0 w1 :=
          hrt.up hzt hon.2 hr1' rfl rfl hr1'.below.os hr1'.below.tape hr1'.below.output (fun c hc hg => hr1'.below.block c hc hg) (fun _ _ => rfl) (hrt.keepE hzt hon.1 hr1' fun c hc hg => hr1'.below.block c hc hg)
        have hwl1 : l < w1.heap.size := (Array.getElem?_eq_some_iff.1 hrdy1).1
        refine ⟨_, run_beginRound hrdy1 (by rw [hrec]), ?_⟩
        obtain ⟨w2, hw2⟩ : ∃ w2, w2 = w1.putObj l (.loop { rec .ready none with state := .busy }) := ⟨_, rfl⟩
        rw [← hw2]
        have hbusy : w2.heap[l]? = some (.loop { rec .ready none with state := .busy }) := by rw [hw2]; exact World.putObj_heap_same hwl1
        have hoth : ∀ k, k ≠ l → w2.heap[k]? = w1.heap[k]? := fun k hk => by rw [hw2]; exact World.putObj_heap_other hk
        have hsz2 : w2.heap.size = w1.heap.size := by rw [hw2]; simp
        have hr2 : Rel ((B.sub W1 S0 s0.h φ0).sub w2 S1 s1.h φ1) s1 φ1 S1 a1' w2 :=
          hRA.inner (s := ⟨t.e, s1.h, s1.nx⟩) hsz2 (fun c hc => hoth c fun e => by subst e; exact hc.elim hlS1 hlG1) (e := s1.e) (a' := a1') hr1'.env hr1'.size (by rw [hw2]; exact hr1'.def0.putObj hrdy1 _)
        have hB3 : BOK E ((B.sub W1 S0 s0.h φ0).sub w2 S1 s1.h φ1) := ⟨(hB2.gok hr1').mono (fun b hb => hoth b fun e => hlS1 (e ▸ hb)) (fun _ h => h), fun b hb => ⟨by show b < w2.heap.size; rw [hsz2]; exact hRA.slt b hb, fun hg => hRA.notS hz1 hg hb⟩⟩
        refine AW_sound y _ hB3 (some l) (.inr hpy) _ _ _ _ _ _ _ hoy (fun e s2 φ2 S2 a2 w3 hr3 hq => ?_) hr2 hW
        obtain ⟨hlS2, hlG2, hw3⟩ := hr3.stays (l := l) (by rw [hsz2]; exact hwl1) hlS1 hlG1
        have hbusy3 : w3.heap[l]? = some (.loop { rec .ready none with state := .busy }) := hw3.trans hbusy
        have hwl3 : l < w3.heap.size := (Array.getElem?_eq_some_iff.1 hbusy3).1
        have hRB : Onw s1.h s1.nx s2.h s2.nx → Rel (B.sub W1 S0 s0.h φ0) ⟨t.e, s2.h, s2.nx⟩ φ2 S2 a0 (w3.putObj l (.loop (rec .ready none))) := fun hon2 => by
          have hkeep : ∀ c, c < w1.heap.size → ¬ GB s1.h φ1 c → (w3.putObj l (.loop (rec .ready none))).heap[c]? = w1.heap[c]? := fun c hc hg => by
            by_cases e : c = l
            · subst e; rw [World.putObj_heap_same hwl3, hrdy1]
            · rw [World.putObj_heap_other e, hr3.below.block c (by show c < w2.heap.size; rw [hsz2]; exact hc) hg]; exact hoth c e
          refine hRA.up (w2 := w3.putObj l (.loop (rec .ready none))) (s := ⟨t.e, s1.h, s1.nx⟩) hz1 hon2.2 hr3 hsz2 (by simp) (hr3.below.os.trans (by rw [hw2]; rfl)) (hr3.below.tape.trans (by rw [hw2]; rfl)) (hr3.below.output.trans (by rw [hw2]; rfl)) hkeep (fun c hc => World.putObj_heap_other fun e => by subst e; exact hc.elim hlS2 hlG2)
            (hRA.keepE (w2 := w3.putObj l (.loop (rec .ready none))) (s := ⟨t.e, s1.h, s1.nx⟩) hz1 hon2.1 hr3 hkeep)
        have stop : ∀ cc : Code, Onw s1.h s1.nx s2.h s2.nx → (∀ w4, Rel B ⟨t.e, s2.h, s2.nx⟩ φ2 S2 a1 w4 → cc.wpIn (WF none) 0 E.P Q' a1 w4) →
            ∃ cc' t φ' S', (∀ w4, Rel B t φ' S' a1 w4 → cc'.wpIn (WF none) 0 E.P Q' a1 w4) ∧ Rel B t φ' S' a1 (w3.putObj l (.loop (rec .done (some cc)))) ∧ (w3.putObj l (.loop (rec .done (some cc)))).heap[l]? = some (.loop (rec .done (some cc'))) ∧ ¬ S' l ∧ ¬ GB t.h φ' l := fun cc hon2 hcc => by
          refine ⟨cc, _, φ2, S2, hcc, ?_, World.putObj_heap_same hwl3, hlS2, hlG2⟩
          have hRC := upB (t := ⟨t.e, s2.h, s2.nx⟩) (hfr.trans (hon.2.trans hon2.2)) (hRB hon2)
          have := hRC.putObj (l := l) (World.putObj_heap_same hwl3) (.loop (rec .done (some cc))) hlS2 hlG2 (by have := hr0.below.size; omega)
          simpa [World.putObj] using this
        have fin : ∀ j : Option Code, (Instr.endRound l j).run E.P w3 = .ok (.bool j.isNone) (w3.putObj l (.loop (rec (if j.isNone then .ready else .done) j))) := fun j => by
          have := run_endRound (P := E.P) (l := l) j hbusy3
          rw [hrec] at this ⊢
          exact this
        cases e with
        | normal =>
          obtain ⟨hon2, s'', hwk2, hI⟩ := hq
          refine ⟨_, _, fin none, .inl ⟨rfl, ?_⟩⟩
          obtain ⟨φ3, S3, hr4⟩ := hwk2 _ φ2 S2 a0 _ (mx_le hr0.nx fun b x hm => mem_look hm) (hRB hon2)
          exact ⟨s'', φ3, S3, hI, hr4⟩
        | ret =>
          obtain ⟨hon2, hqr⟩ := hq
          exact ⟨_, _, fin (some .ret), .inr ⟨rfl, stop .ret hon2 fun w4 h => wpIn_ret (hQ _ _ _ _ _ _ h hqr)⟩⟩
        | exit id =>
          obtain ⟨hon2, hqr⟩ := hq
          exact ⟨_, _, fin (some (.exit id)), .inr ⟨rfl, stop (.exit id) hon2 fun w4 h => wpIn_exit (hQ _ _ _ _ _ _ h hqr)⟩⟩
        | goto t => exact hq.elim
        | panic ch => exact hq.elim
        | outgrown => exact hq.elim
      · rintro e W2 ⟨⟨v, rfl⟩, (⟨t, φ', S', hI, hrt⟩ | ⟨cc, t, φ', S', hcc, hrt, hrc, hS, hG⟩)⟩
        · obtain ⟨hlS', hlG', hrdy⟩ := hrt.stays (l := l) (by omega) hlS0 hlG0
          have hrdy : W2.heap[l]? = some (.loop (rec .ready none)) := hrdy.trans hL1
          refine ⟨none, _, by have := run_endLoop (P := E.P) hrdy (by rw [hrec]; simp); rw [hrec] at this; exact this, ?_⟩
          have hl' := hrdy
          rw [hrec] at hl'
          have := hQ .normal t φ' S' a1 _ ((upB (hround 0 t hI).1 hrt).putObj hl' (.loop { state := .exhausted, pending := none, fn, tmps := a.tmps, params := #[p, q], assign := x, body := y, defers := w.heap.size }) hlS' hlG' (by have := hr0.below.size; omega)) (hdone t hI)
          rw [ha1] at this
          exact this
        · refine ⟨some cc, _, by have := run_endLoop (P := E.P) hrc (by rw [hrec]; simp); rw [hrec] at this; exact this, ?_⟩
          have hl' := hrc
          rw [hrec] at hl'
          have := hcc _ (hrt.putObj hl' (.loop { state := .exhausted, pending := some cc, fn, tmps := a.tmps, params := #[p, q], assign := x, body := y, defers := w.heap.size }) hS hG (by have := hr0.below.size; omega))
          rw [ha1] at this
          exact this
    | [], h, _ => simp only [AW] at h
    | [_], h, _ => simp only [AW] at h
    | _ :: _ :: _ :: _, h, _ => simp only [AW] at h
end

end Go.Proofs.YtmcinfbckdiaoaaGreatDoor.Lv

set_option linter.unusedVariables false
set_option linter.unusedSimpArgs false
namespace Go.Proofs.YtmcinfbckdiaoaaGreatDoor.Lv
open Go Go.RowKit

def resD (E : Ctx) (s : St) : List ResultVar → Option (List D)
  | [] => some []
  | .tmp t :: r => (resD E s r).map fun ds => s.e t :: ds
  | .cell t ty :: r => match (E.tt ty).k with
    | .bad => none
    | _ => (ldd s.h (E.tt ty).ag (E.tt ty).sz (s.e t)).bind fun d => (resD E s r).map fun ds => d :: ds
def one' : List D → D
  | [d] => d
  | ds => .tup ds
def kp (h : Hp) (b : Nat) : Option Nat := if (lookB h b).isSome then some b else none
/-- Whatever is so is so. -/
def Le (d d' : D) : Prop := ∀ S w v, Rep0 S w d v → Rep0 S w d' v
def LeV (d d' : D) : Prop := ∀ H φ S w v, RepV H φ S w d v → RepV H φ S w d' v
def LesV (ds ds' : List D) : Prop := ∀ H φ S w vs, RepVs H φ S w ds vs → RepVs H φ S w ds' vs
def BLe : Option Blk → Blk → Prop
  | some (.var ag sz d), .var ag' sz' d' => ag = ag' ∧ sz = sz' ∧ LeV d d'
  | some (.row fz ver ag sz n f), .row fz' ver' ag' sz' n' f' => fz = fz' ∧ ver = ver' ∧ ag = ag' ∧ sz = sz' ∧ n = n' ∧ ∀ i, i < n → Le (f i) (f' i)
  | _, _ => False
def HLe (ρ : Nat → Option Nat) (H : Hp) : Hp → Prop
  | [] => True
  | (i, y) :: r => BLe ((lookB H i).map (impB ρ H)) y ∧ HLe ρ H r
def retQ (E : Ctx) (rl : List ResultVar) (d : D) (h' : Hp) : Exit → St → Prop
  | .normal, s | .ret, s => ork ((resD E s rl).map fun ds => imp (kp h') s.h (one' ds)) (fun d' => LeV d' d) False ∧ HLe (kp h') s.h h'
  | _, _ => False
def St.init (args : List D) (h : Hp) : St := ⟨fun t => args.getD t .unk, h, mx h⟩

theorem Le.refl (d : D) : Le d d := fun _ _ _ h => h
theorem Le.of_eq {d d' : D} (e : d = d') : Le d d' := e ▸ Le.refl d
theorem LeV.refl (d : D) : LeV d d := fun _ _ _ _ _ h => h
theorem LeV.of_eq {d d' : D} (e : d = d') : LeV d d' := e ▸ LeV.refl d
theorem LeV.trans {a b c : D} (h : LeV a b) (h' : LeV b c) : LeV a c := fun H φ S w v x => h' H φ S w v (h H φ S w v x)
theorem LeV.unk (d : D) : LeV d .unk := fun _ _ _ _ _ _ => by simp [RepV, Rep0]
theorem Le.ro {ag : Bool} {sz n : Nat} {f g : Nat → D} (h : ∀ i, i < n → Le (f i) (g i)) : Le (.ro ag sz n f) (.ro ag sz n g) := fun S w v hv => by
  simp only [Rep0] at hv ⊢
  obtain ⟨a, cap, e, h1, h2, h3⟩ := hv
  refine ⟨a, cap, e, h1, h2, fun hp => ?_⟩
  obtain ⟨b, o, h4, h5, h6⟩ := h3 hp
  refine ⟨b, o, h4, h5, fun i hi => ?_⟩
  obtain ⟨x, vs, h7, h8, h9, h10⟩ := h6 i hi
  exact ⟨x, vs, h7, h8, h9, h i hi S w x h10⟩
theorem LeV.ro {ag : Bool} {sz n m : Nat} {f g : Nat → D} (e : n = m) (h : ∀ i, i < n → Le (f i) (g i)) : LeV (.ro ag sz n f) (.ro ag sz m g) := fun H φ S w v hv => by
  subst e
  simp only [RepV] at hv ⊢
  exact Le.ro h S w v hv
theorem LeV.nils {ag : Bool} {sz : Nat} {f : Nat → D} : LeV .nils (.ro ag sz 0 f) := fun H φ S w v hv => by
  simp only [RepV, Rep0] at hv ⊢
  exact ⟨none, 0, hv, by omega, by omega, fun h => by omega⟩
theorem LesV.nil : LesV [] [] := fun _ _ _ _ _ h => h
theorem LesV.cons {d d' : D} {ds ds' : List D} (h : LeV d d') (hs : LesV ds ds') : LesV (d :: ds) (d' :: ds') := fun H φ S w vs hv => by
  simp only [RepVs] at hv ⊢
  obtain ⟨v, vs', e, h1, h2⟩ := hv
  exact ⟨v, vs', e, h H φ S w v h1, hs H φ S w vs' h2⟩
theorem LesV.refl (ds : List D) : LesV ds ds := fun _ _ _ _ _ h => h
theorem LeV.agg {ds ds' : List D} (h : LesV ds ds') : LeV (.agg ds) (.agg ds') := fun H φ S w v hv => by
  simp only [RepV] at hv ⊢
  obtain ⟨vs, e, h1⟩ := hv
  exact ⟨vs, e, h H φ S w vs h1⟩
theorem LeV.tup {ds ds' : List D} (h : LesV ds ds') : LeV (.tup ds) (.tup ds') := fun H φ S w v hv => by
  simp only [RepV] at hv ⊢
  obtain ⟨vs, e, h1⟩ := hv
  exact ⟨vs, e, h H φ S w vs h1⟩
theorem Le.ofV {d d' : D} (hc : cl d' = true) (h : LeV d d') : Le d d' := fun S w v hv => cl_rep (H := []) (φ := fun _ => none) d' v (h [] (fun _ => none) S w v (Rep0.toV _ _ hv)) hc
/-- A contract serves arguments of which more is known. -/
theorem CG.args {E : Ctx} {f : FuncId} {args args' : List D} {h h' : Hp} {d : D} (hc : CG E f args' h d h') (hl : LesV args args') : CG E f args h d h' :=
  ⟨hc.1, fun S w vs φ h1 h2 h3 h4 h5 => hc.2 S w vs φ h1 h2 h3 h4 (hl _ _ _ _ _ h5)⟩

def resOf (tmps : Array Value) : ResultVar → Sem Value
  | .tmp t => pure (tmps.getD t undef)
  | .cell a t => do loadVar t (← asAddr (tmps.getD a undef))
theorem results_eq (fn : Func) (tmps : Array Value) : results fn tmps = (do
    let vs ← fn.results.mapM (resOf tmps)
    pure (if h : vs.size = 1 then vs[0] else .tuple vs)) := by
  unfold results
  congr 1
section
variable {E : Ctx} {B : Base} {s : St} {φ : Ph} {S : Nat → Prop} {a : Act} {w : World}
theorem resD_sound (hr : Rel B s φ S a w) : ∀ (rl : List ResultVar) (ds : List D), resD E s rl = some ds →
    ∃ vs, (rl.mapM (resOf a.tmps)).run E.P w = .ok vs w ∧ RepVs s.h φ S w ds vs
  | [], ds, h => by
    simp only [resD, Option.some.injEq] at h
    subst h
    exact ⟨[], rfl, rfl⟩
  | .tmp t :: r, ds, h => by
    simp only [resD] at h
    obtain ⟨ds', h1, rfl⟩ := Option.map_eq_some_iff.1 h
    obtain ⟨vs, h2, h3⟩ := resD_sound hr r ds' h1
    refine ⟨a.tmps.getD t undef :: vs, ?_, ?_⟩
    · simp only [List.mapM_cons, resOf, pure_bind, Sem.run_bind, h2, Result.andThen_ok, Sem.run_pure]
    · exact ⟨_, _, rfl, hr.env t, h3⟩
  | .cell t ty :: r, ds, h => by
    simp only [resD] at h
    split at h
    · cases h
    · rename_i hk
      obtain ⟨d, h0, h⟩ := Option.bind_eq_some_iff.1 h
      obtain ⟨ds', h1, rfl⟩ := Option.map_eq_some_iff.1 h
      obtain ⟨vs, h2, h3⟩ := resD_sound hr r ds' h1
      obtain ⟨x, h4, h5⟩ := ldd_sound (E := E) hr.hp (t := ty) (fun e => hk e) (hr.env t) h0
      refine ⟨x :: vs, ?_, ?_⟩
      · have h6 : (do loadVar ty (← asAddr (a.tmps.getD t undef)) : Sem Value).run E.P w = .ok x w := by
          revert h4
          generalize a.tmps.getD t undef = v
          intro h4
          unfold Instr.loadAt at h4
          cases v
          case pointer o =>
            cases o with
            | some q => simpa [Instr.sureAddr, asAddr] using h4
            | none => simp [Instr.sureAddr, stuck] at h4
          all_goals simp [Instr.sureAddr, stuck] at h4
        rw [List.mapM_cons]
        show (resOf a.tmps (.cell t ty) >>= fun b => _ : Sem (List Value)).run E.P w = _
        rw [Sem.run_bind, show (resOf a.tmps (.cell t ty)).run E.P w = .ok x w from h6]
        simp only [Result.andThen_ok, Sem.run_bind, h2, Sem.run_pure]
      · exact ⟨_, _, rfl, h5, h3⟩
theorem Rep0s.length : ∀ {ds : List D} {vs : List Value}, Rep0s S w ds vs → vs.length = ds.length
  | [], vs, h => by simp only [Rep0s] at h; subst h; rfl
  | d :: ds, vs, h => by
    simp only [Rep0s] at h
    obtain ⟨v, vs', rfl, _, h2⟩ := h
    simp [h2.length]
theorem Rep0s.getD : ∀ {ds : List D} {vs : List Value}, Rep0s S w ds vs → ∀ (rest : List Value) (t : Nat), Rep0 S w (ds.getD t .unk) ((vs ++ rest).getD t undef)
  | [], vs, h, rest, t => by simp [Rep0]
  | d :: ds, vs, h, rest, t => by
    simp only [Rep0s] at h
    obtain ⟨v, vs', rfl, h1, h2⟩ := h
    cases t with
    | zero => simpa using h1
    | succ t => simpa using h2.getD rest t

theorem RepVs.getD {H : Hp} : ∀ {ds : List D} {vs : List Value}, RepVs H φ S w ds vs → ∀ (rest : List Value) (t : Nat), RepV H φ S w (ds.getD t .unk) ((vs ++ rest).getD t undef)
  | [], vs, h, rest, t => by simp [RepV, Rep0]
  | d :: ds, vs, h, rest, t => by
    simp only [RepVs] at h
    obtain ⟨v, vs', rfl, h1, h2⟩ := h
    cases t with
    | zero => simpa using h1
    | succ t => simpa using h2.getD rest t

/-- What is kept of the blocks. -/
def kH (ρ : Nat → Option Nat) (H : Hp) : Hp → Hp
  | [] => []
  | (i, _) :: r => match lookB H i with
    | some x => (i, impB ρ H x) :: kH ρ H r
    | none => kH ρ H r
theorem HLe.look {ρ : Nat → Option Nat} {H : Hp} : ∀ {h' : Hp}, HLe ρ H h' → ∀ i y, lookB h' i = some y → ∃ x, lookB H i = some x ∧ BLe (some (impB ρ H x)) y
  | (j, z) :: r, h, i, y, hl => by
    simp only [HLe] at h
    simp only [lookB] at hl
    split at hl
    · rename_i e
      subst e
      cases hl
      cases hx : lookB H i with
      | none => rw [hx] at h; cases h.1
      | some x => rw [hx] at h; exact ⟨x, rfl, h.1⟩
    · exact HLe.look h.2 i y hl
theorem kH_look {ρ : Nat → Option Nat} {H : Hp} : ∀ {h' : Hp}, HLe ρ H h' → ∀ i, lookB (kH ρ H h') i = if (lookB h' i).isSome then (lookB H i).map (impB ρ H) else none
  | [], _, i => by simp [kH, lookB]
  | (j, z) :: r, h, i => by
    have h' := h
    simp only [HLe] at h
    cases hx : lookB H j with
    | none => rw [hx] at h; cases h.1
    | some x =>
      simp only [kH, hx, lookB]
      by_cases e : i = j
      · subst e; simp [hx]
      · simp only [if_neg e]
        exact kH_look h.2 i

theorem HLe.mem {h' : Hp} : ∀ b, (lookB h' b).isSome = true → ∃ p ∈ h', p.1 = b := by
  induction h' with
  | nil => intro b hb; cases hb
  | cons p r ih =>
    intro b hb
    obtain ⟨j, z⟩ := p
    simp only [lookB] at hb
    split at hb
    · rename_i e; exact ⟨(j, z), by simp, e.symm⟩
    · obtain ⟨q, hq, e⟩ := ih b hb
      exact ⟨q, by simp [hq], e⟩
/-- Slots that are told. -/
def EnvLe (ρ : Nat → Option Nat) (H : Hp) (e : Nat → D) : List (Nat × D) → Prop
  | [] => True
  | (t, d) :: r => LeV (imp ρ H (e t)) d ∧ EnvLe ρ H e r
theorem EnvLe.look {ρ : Nat → Option Nat} {H : Hp} {e : Nat → D} : ∀ {L : List (Nat × D)}, EnvLe ρ H e L → ∀ t, LeV (imp ρ H (e t)) (look .unk L t)
  | [], _, t => LeV.unk _
  | (t', d) :: r, h, t => by
    simp only [Lv.look]
    split
    · rename_i e; subst e; exact h.1
    · exact EnvLe.look h.2 t
/-- Only these slots, only these blocks are told from here on. -/
theorem Wk.gen {n : Nat} {e : Nat → D} {h : Hp} {nx : Nat} (L : List (Nat × D)) (h' : Hp) (nx' : Nat) (hn : n ≤ nx') (hm : mx h' ≤ nx') (hL : EnvLe (kp h') h e L) (hH : HLe (kp h') h h') : Wk n ⟨e, h, nx⟩ ⟨Lv.look .unk L, h', nx'⟩ := by
  intro B φ S a w hnB hr
  let fs := L.flatMap (fun p => refs (kp h') (e p.1)) ++ h'.flatMap fun p => refB (kp h') (lookB h p.1)
  let h2' := kH (kp h') h h'
  have hlook : ∀ i, lookB h2' i = if (lookB h' i).isSome then (lookB h i).map (impB (kp h') h) else none := kH_look hH
  have hkp : ∀ b i, kp h' b = some i → i = b ∧ (lookB h' b).isSome = true := fun b i e => by
    unfold kp at e
    split at e
    · rename_i hs; exact ⟨(Option.some.inj e).symm, hs⟩
    · cases e
  have hρ : ∀ b i, kp h' b = some i → ∀ x, lookB h b = some x → lookB h2' i = some (impB (kp h') h x) ∧ φ i = φ b := fun b i e x hx => by
    obtain ⟨rfl, hs⟩ := hkp b i e
    exact ⟨by rw [hlook, if_pos hs, hx]; rfl, rfl⟩
  have hback : ∀ i y, lookB h2' i = some y → ∃ b x, kp h' b = some i ∧ lookB h b = some x ∧ y = impB (kp h') h x := fun i y e => by
    rw [hlook] at e
    split at e
    · rename_i hs
      obtain ⟨x, hx, rfl⟩ := Option.map_eq_some_iff.1 e
      exact ⟨i, x, by unfold kp; rw [if_pos hs], hx, rfl⟩
    · cases e
  have hfs : ∀ b, b ∈ fs → kp h' b = none := fun b hb => by
    rcases List.mem_append.1 hb with hb | hb
    · obtain ⟨t, _, hb⟩ := List.mem_flatMap.1 hb
      exact (refs_none _).1 _ _ hb
    · obtain ⟨p, hp, hb⟩ := List.mem_flatMap.1 hb
      unfold refB at hb
      split at hb
      · exact (refs_none _).1 _ _ hb
      · cases hb
  have hrf : ∀ b i ag sz d, kp h' b = some i → lookB h b = some (.var ag sz d) → ∀ b', b' ∈ refs (kp h') d → b' ∈ fs := fun b i ag sz d e hl b' hb' => by
    obtain ⟨rfl, hs⟩ := hkp b i e
    obtain ⟨p, hp, e⟩ := HLe.mem i hs
    exact List.mem_append_right _ (List.mem_flatMap.2 ⟨p, hp, by rw [e]; simp [refB, hl, hb']⟩)
  have hhp2 : HpAt h2' φ (Fz h φ S fs) w := imp_hp hr.hp hρ hback hfs hrf
  have hz := hr.frz fs
  have hB2 : ∀ i y, lookB h' i = some y → ∃ x, lookB h i = some x ∧ lookB h2' i = some (impB (kp h') h x) ∧ BLe (some (impB (kp h') h x)) y := fun i y e => by
    obtain ⟨x, hx, hle⟩ := hH.look i y e
    exact ⟨x, hx, by rw [hlook, e, hx]; rfl, hle⟩
  have hB3 : ∀ i x, lookB h2' i = some x → ∃ y, lookB h' i = some y ∧ BLe (some x) y := fun i x e => by
    have e' := e
    rw [hlook] at e'
    split at e'
    · rename_i hs
      obtain ⟨y, hy⟩ := Option.isSome_iff_exists.1 hs
      obtain ⟨x', _, e2, hle⟩ := hB2 i y hy
      rw [e] at e2
      cases e2
      exact ⟨y, hy, hle⟩
    · cases e'
  have hx2 : HpExt h2' φ h' φ := fun b => ⟨fun ag sz d e => by
      obtain ⟨y, hy, hle⟩ := hB3 b _ e
      cases y with
      | var ag' sz' d' => obtain ⟨rfl, rfl, _⟩ := hle; exact ⟨⟨_, hy⟩, rfl⟩
      | row => exact hle.elim,
    fun fz ver ag sz m f e => by
      obtain ⟨y, hy, hle⟩ := hB3 b _ e
      cases y with
      | var => exact hle.elim
      | row fz' ver' ag' sz' m' f' => obtain ⟨rfl, rfl, rfl, rfl, rfl, _⟩ := hle; exact ⟨_, _, _, _, hy, Nat.le_refl _, fun _ => ⟨Nat.le_refl _, rfl⟩⟩⟩
  have hk : Kept (Fz h φ S fs) w w := fun _ _ => rfl
  refine ⟨φ, Fz h φ S fs, fun t => ?_, hr.size, ⟨fun b y e => ?_, fun b b' y y' c t t' l l' p p' => ?_⟩, fun b y e => Nat.lt_of_lt_of_le (mx_lt e) hm, hz.slt, fun b y c t e hp => ?_, fun b y c t e hp => ?_, hz.s0, hz.s1, hr.below, fun b hb => ?_, Nat.le_trans hnB hn, hr.def0.move fun D hD _ hS ho => ⟨rfl, fun h => ?_, fun b y c t l p => ?_⟩⟩
  · by_cases ht : ∃ p ∈ L, p.1 = t
    · obtain ⟨p, hp, rfl⟩ := ht
      have := imp_rep (fs := fs) hr.hp hρ (e p.1) _ (hr.env p.1) fun b hb => List.mem_append_left _ (List.mem_flatMap.2 ⟨p, hp, hb⟩)
      exact hL.look p.1 _ _ _ _ _ (RepV.mono hx2 hk (fun _ h => h) _ _ this)
    · have : ∀ L : List (Nat × D), (¬ ∃ p ∈ L, p.1 = t) → Lv.look .unk L t = .unk := by
        intro L
        induction L with
        | nil => intro _; rfl
        | cons q r ih =>
          intro hn
          obtain ⟨t', d⟩ := q
          simp only [Lv.look]
          rw [if_neg fun e => hn ⟨(t', d), by simp, e.symm⟩]
          exact ih fun ⟨p, hp, e⟩ => hn ⟨p, by simp [hp], e⟩
      show RepV h' φ (Fz h φ S fs) w (Lv.look .unk L t) _
      rw [this L ht]
      simp [RepV, Rep0]
  · obtain ⟨x, hx, e2, hle⟩ := hB2 b y e
    have hblk := hhp2.blk b _ e2
    revert hblk hle
    generalize impB (kp h') h x = z
    intro hle hblk
    cases z with
    | var ag sz d0 =>
      cases y with
      | row => exact hle.elim
      | var ag' sz' d' =>
        obtain ⟨rfl, rfl, hle⟩ := hle
        obtain ⟨c, t, g1, g2, x, vs, e, lo, hi, g3, g4, g5, g6, g7⟩ := hblk
        exact ⟨c, t, g1, g2, x, vs, e, lo, hi, g3, g4, g5, g6, hle _ _ _ _ _ (RepV.mono hx2 hk (fun _ h => h) _ _ g7)⟩
    | row fz ver ag sz n f =>
      cases y with
      | var => exact hle.elim
      | row fz' ver' ag' sz' n' f' =>
        obtain ⟨rfl, rfl, rfl, rfl, rfl, hle⟩ := hle
        refine ⟨hblk.1, fun c tot e => ?_⟩
        obtain ⟨g1, g2, g3, g4, vs, ty, lo, hi, g5, g6, g7, g8⟩ := hblk.2 c tot e
        refine ⟨g1, g2, g3, g4, vs, ty, lo, hi, g5, g6, g7, fun i hi => ?_⟩
        obtain ⟨x, k1, k2⟩ := g8 i hi
        exact ⟨x, k1, hle i hi _ _ _ k2⟩
  · obtain ⟨x, _, e2, _⟩ := hB2 b y l
    obtain ⟨x', _, e2', _⟩ := hB2 b' y' l'
    exact hhp2.inj b b' _ _ c t t' e2 e2' p p'
  · obtain ⟨x, hx, _, _⟩ := hB2 b y e
    exact hr.plt b x c t hx hp
  · obtain ⟨x, hx, _, _⟩ := hB2 b y e
    exact hr.old b x c t hx hp
  · obtain ⟨y, hy⟩ := Option.isSome_iff_exists.1 hb
    obtain ⟨x, hx, _, hle⟩ := hB2 b y hy
    have hext := hr.ext b (by rw [hx]; rfl)
    refine ⟨fun ag sz d e => ?_, fun fz ver ag sz m f e => ?_⟩
    · obtain ⟨⟨d1, e4⟩, e5⟩ := hext.1 ag sz d e
      have e4' : lookB h b = some (.var ag sz d1) := e4
      rw [hx] at e4'
      cases e4'
      cases y with
      | row => exact hle.elim
      | var ag' sz' d' => obtain ⟨rfl, rfl, _⟩ := hle; exact ⟨⟨_, hy⟩, e5⟩
    · obtain ⟨fz2, ver2, m2, f2, e4, e5, e6⟩ := hext.2 _ _ _ _ _ _ e
      have e4' : lookB h b = _ := e4
      rw [hx] at e4'
      cases e4'
      cases y with
      | var => exact hle.elim
      | row fz' ver' ag' sz' m' f' => obtain ⟨rfl, rfl, rfl, rfl, rfl, _⟩ := hle; exact ⟨_, _, _, _, hy, e5, e6⟩
  · rcases h with h | ⟨b', hb', fz', ver', ag', sz', n', f', t', l', p'⟩
    · exact hS h
    · exact ho b' _ D t' l' p' rfl
  · obtain ⟨x, hx, _, _⟩ := hB2 b y l
    exact ho b x c t hx p

/-- A mark taken. -/
def mark (D : Nat) : Deferred := { target := .collected D, args := #[] }
theorem Rel.unmark (hn0 : B.w0.heap.size ≤ B.n0) (hr : Rel B s φ S a w) {D : Nat} {Ds : List Nat} (ha : a.defers = mark D :: Ds.map mark) : w.heap[D]? = some (.deferred (some [])) ∧ Rel B s φ S { a with defers := Ds.map mark } (w.putObj D (.deferred none)) := by
  obtain ⟨Ds', e, hn, hD⟩ := hr.def0
  have e' : Ds' = D :: Ds := by
    have hinj : ∀ l l' : List Nat, l.map mark = l'.map mark → l = l' := by
      intro l
      induction l with
      | nil => intro l' h; cases l' with
        | nil => rfl
        | cons => simp at h
      | cons x l ih => intro l' h; cases l' with
        | nil => simp at h
        | cons y l' =>
          simp only [List.map_cons, List.cons.injEq, mark, Deferred.mk.injEq, Target.collected.injEq, and_true] at h
          rw [h.1, ih l' h.2]
    exact hinj _ _ (e.symm.trans ha)
  subst e'
  obtain ⟨h1, h2, h3, h4⟩ := hD D (by simp)
  obtain ⟨hn1, hn2⟩ := List.nodup_cons.1 hn
  have hlt := (Array.getElem?_eq_some_iff.1 h1).1
  have hoth : ∀ k, k ≠ D → (w.putObj D (.deferred none)).heap[k]? = w.heap[k]? := fun k hk => World.putObj_heap_other hk
  have hsz : (w.putObj D (.deferred none)).heap.size = w.heap.size := by simp [World.putObj]
  have hk : Kept S w (w.putObj D (.deferred none)) := fun b hb => hoth b fun e => h3 (e ▸ hb)
  refine ⟨h1, fun i => RepV.mono (HpExt.refl _ _) hk (fun _ h => h) _ _ (hr.env i), hr.size, ⟨fun b x hl => BlkAt.move (HpExt.refl _ _) hk (fun _ h => h) rfl (fun c t hp => hoth c (h4 b x c t hl hp)) (fun _ _ _ h => h) (hr.hp.blk b x hl), hr.hp.inj⟩, hr.nx, fun b h => hsz ▸ hr.slt b h, fun b x c t hl hp => hsz ▸ hr.plt b x c t hl hp, hr.old, hr.s0, hr.s1, ⟨hr.below.os, hr.below.tape, hr.below.output, hsz ▸ hr.below.size, fun k hk hG => (hoth k (by omega)).trans (hr.below.block k hk hG)⟩, hr.ext, hr.nx0, ⟨Ds, rfl, hn2, fun D' hD' => ?_⟩⟩
  obtain ⟨g1, g2, g3, g4⟩ := hD D' (by simp [hD'])
  exact ⟨(hoth D' fun e => hn1 (e ▸ hD')).trans g1, g2, g3, g4⟩
theorem leave (hn0 : B.w0.heap.size ≤ B.n0) {fn : Func} {R : Ending → World → Prop} {P : Program} : ∀ (Ds : List Nat) (a : Act) (w : World), a.defers = Ds.map mark → Rel B s φ S a w →
    (∀ a' w', a'.tmps = a.tmps → Rel B s φ S a' w' → ∃ v, (results fn a'.tmps).run P w' = .ok v w' ∧ R (.returned v) w') → LeavesInM (WF none) 0 P fn a.tmps R (Ds.map mark) .returning w
  | [], a, w, _, hr, h => h a w rfl hr
  | D :: Ds, a, w, ha, hr, h => by
    obtain ⟨h1, h2⟩ := hr.unmark hn0 ha
    exact ⟨by simp, .inl ⟨D, _, rfl, run_takeDeferred h1, leave hn0 Ds { a with defers := Ds.map mark } _ rfl h2 h⟩⟩

/-- A CONTRACT. -/
theorem CG_intro {f : FuncId} {fn : Func} {body : Code} {rl : List ResultVar} {args : List D} {h0 h' : Hp} {d : D} (hf : E.P.funcs[f]? = some fn) (hb : fn.body = some body) (hn : (fn.name == "runtime.NumGoroutine") = false) (hres : fn.results = ⟨rl⟩)
    (ho : codeOk fn.ntmps body = true) (hl : decide (args.length ≤ fn.ntmps) = true) (hkeys : (h0.all fun p => (lookB h' p.1).isSome) = true) (h : AW E body (retQ E rl d h') (St.init args h0)) : CG E f args h0 d h' := by
  refine ⟨by simp [fnOk, hf, hb]; simpa using hn, fun S w vs φ hS hG hhp hGB hvs => (callsIn_wide (n := 0)).1 (callsIn_of_wp_marks (F := WF none) hf hb trivial ?_)⟩
  let B : Base := ⟨w, S, GB h0 φ, fn.ntmps, h0, φ, w.heap.size⟩
  have hB : BOK E B := ⟨hG, fun b hb => ⟨hS b hb, fun h => (hGB b h).2 hb⟩⟩
  have hlen := hvs.length
  have hl' : args.length ≤ fn.ntmps := by simpa using hl
  have hr : Rel B (St.init args h0) φ S { tmps := ⟨vs⟩ ++ Array.replicate (fn.ntmps - (⟨vs⟩ : Array Value).size) undef, defers := [] } w := by
    refine ⟨fun t => ?_, ?_, hhp, fun b x hl => mx_lt hl, hS, fun b x c t hl hp => (hGB c ⟨b, x, t, hl, hp⟩).1, fun b x c t hl hp => .inr ⟨b, x, t, hl, hp⟩, fun b h => h, fun b h _ => .inl h, ⟨rfl, rfl, rfl, Nat.le_refl _, fun _ _ _ => rfl⟩, HpOn.refl _ _, Nat.le_refl _, Marked.nil _ _ _ _ _⟩
    · have := hvs.getD (List.replicate (fn.ntmps - vs.length) undef) t
      have e : ((⟨vs⟩ : Array Value) ++ Array.replicate (fn.ntmps - (⟨vs⟩ : Array Value).size) undef).getD t undef = (vs ++ List.replicate (fn.ntmps - vs.length) undef).getD t undef := by
        rw [Array.getD_eq_getD_getElem?, List.getD_eq_getElem?_getD]
        congr 1
        rw [← Array.getElem?_toList]
        simp
      rw [e]
      exact this
    · show ((⟨vs⟩ : Array Value) ++ Array.replicate (fn.ntmps - (⟨vs⟩ : Array Value).size) undef).size = fn.ntmps
      simp
      omega
  refine AW_sound body B hB none (.inl ⟨rfl, Nat.le_refl _⟩) _ _ _ _ _ _ _ ho (fun e s φ1 S1 a w1 hr h => ?_) hr h
  have ret : ∀ a w1, Rel B s φ1 S1 a w1 → ork ((resD E s rl).map fun ds => imp (kp h') s.h (one' ds)) (fun d' => LeV d' d) False ∧ HLe (kp h') s.h h' → ∃ v, (results fn a.tmps).run E.P w1 = .ok v w1 ∧ ∃ v' S' φ', Ending.returned v = .returned v' ∧ RepV h' φ' S' w1 d v' ∧ HpAt h' φ' S' w1 ∧ HpExt h0 φ h' φ' ∧
      (∀ c, GB h' φ' c → c < w1.heap.size ∧ (w.heap.size ≤ c ∨ GB h0 φ c)) ∧ Trod (GB h0 φ) w w1 ∧ (∀ b, S b → S' b) ∧ (∀ b, S' b → b < w1.heap.size) ∧ ∀ b, S' b → b < w.heap.size → S b ∨ GB h0 φ b := by
    rintro a w1 hr ⟨h, hH⟩
    unfold ork at h
    split at h
    · rename_i d' hd'
      obtain ⟨ds, h1, h2⟩ := Option.map_eq_some_iff.1 hd'
      obtain ⟨vs', h3, h4⟩ := resD_sound hr rl ds h1
      have h5 : ∃ v, (results fn a.tmps).run E.P w1 = .ok v w1 ∧ RepV s.h φ1 S1 w1 (one' ds) v := by
        rw [results_eq, hres, show (⟨rl⟩ : Array ResultVar) = rl.toArray from rfl, List.mapM_toArray]
        simp only [map_eq_pure_bind, bind_assoc, pure_bind, Sem.run_bind, h3, Result.andThen_ok, Sem.run_pure]
        match ds, h4 with
        | [], h4 =>
          simp only [RepVs] at h4
          subst h4
          exact ⟨_, rfl, by simp [one', RepV, RepVs]⟩
        | [x], h4 =>
          simp only [RepVs] at h4
          obtain ⟨v, vs'', rfl, h6, rfl⟩ := h4
          exact ⟨v, rfl, h6⟩
        | x :: y :: r, h4 =>
          have h4' := h4
          simp only [RepVs] at h4
          obtain ⟨v, vs'', rfl, h6, v2, vs3, rfl, h7, h8⟩ := h4
          refine ⟨.tuple ⟨v :: v2 :: vs3⟩, ?_, ?_⟩
          · rw [dif_neg (by simp)]
          · simp only [one', RepV]
            exact ⟨_, rfl, h4'⟩
      obtain ⟨v, h6, h7⟩ := h5
      let fs := refs (kp h') (one' ds) ++ h'.flatMap fun p => refB (kp h') (lookB s.h p.1)
      let h2' := kH (kp h') s.h h'
      have hlook : ∀ i, lookB h2' i = if (lookB h' i).isSome then (lookB s.h i).map (impB (kp h') s.h) else none := kH_look hH
      have hkp : ∀ b i, kp h' b = some i → i = b ∧ (lookB h' b).isSome = true := fun b i e => by
        unfold kp at e
        split at e
        · rename_i hs; exact ⟨(Option.some.inj e).symm, hs⟩
        · cases e
      have hρ : ∀ b i, kp h' b = some i → ∀ x, lookB s.h b = some x → lookB h2' i = some (impB (kp h') s.h x) ∧ φ1 i = φ1 b := fun b i e x hx => by
        obtain ⟨rfl, hs⟩ := hkp b i e
        exact ⟨by rw [hlook, if_pos hs, hx]; rfl, rfl⟩
      have hback : ∀ i y, lookB h2' i = some y → ∃ b x, kp h' b = some i ∧ lookB s.h b = some x ∧ y = impB (kp h') s.h x := fun i y e => by
        rw [hlook] at e
        split at e
        · rename_i hs
          obtain ⟨x, hx, rfl⟩ := Option.map_eq_some_iff.1 e
          exact ⟨i, x, by unfold kp; rw [if_pos hs], hx, rfl⟩
        · cases e
      have hfs : ∀ b, b ∈ fs → kp h' b = none := fun b hb => by
        rcases List.mem_append.1 hb with hb | hb
        · exact (refs_none _).1 _ _ hb
        · obtain ⟨p, hp, hb⟩ := List.mem_flatMap.1 hb
          unfold refB at hb
          split at hb
          · exact (refs_none _).1 _ _ hb
          · cases hb
      have hmem : ∀ (h' : Hp) b, (lookB h' b).isSome = true → ∃ p ∈ h', p.1 = b := by
        intro h'
        induction h' with
        | nil => intro b hb; cases hb
        | cons p r ih =>
          intro b hb
          obtain ⟨j, z⟩ := p
          simp only [lookB] at hb
          split at hb
          · rename_i e; exact ⟨(j, z), by simp, e.symm⟩
          · obtain ⟨q, hq, e⟩ := ih b hb
            exact ⟨q, by simp [hq], e⟩
      have hrf : ∀ b i ag sz d, kp h' b = some i → lookB s.h b = some (.var ag sz d) → ∀ b', b' ∈ refs (kp h') d → b' ∈ fs := fun b i ag sz d e hl b' hb' => by
        obtain ⟨rfl, hs⟩ := hkp b i e
        obtain ⟨p, hp, e⟩ := hmem h' i hs
        exact List.mem_append_right _ (List.mem_flatMap.2 ⟨p, hp, by rw [e]; simp [refB, hl, hb']⟩)
      have hhp2 : HpAt h2' φ1 (Fz s.h φ1 S1 fs) w1 := imp_hp hr.hp hρ hback hfs hrf
      have hrep := imp_rep (fs := fs) hr.hp hρ (one' ds) v h7 fun b hb => List.mem_append_left _ hb
      have hz := hr.frz fs
      have hB2 : ∀ i y, lookB h' i = some y → ∃ x, lookB s.h i = some x ∧ lookB h2' i = some (impB (kp h') s.h x) ∧ BLe (some (impB (kp h') s.h x)) y := fun i y e => by
        obtain ⟨x, hx, hle⟩ := hH.look i y e
        exact ⟨x, hx, by rw [hlook, e, hx]; rfl, hle⟩
      have hB3 : ∀ i x, lookB h2' i = some x → ∃ y, lookB h' i = some y ∧ BLe (some x) y := fun i x e => by
        have e' := e
        rw [hlook] at e'
        split at e'
        · rename_i hs
          obtain ⟨y, hy⟩ := Option.isSome_iff_exists.1 hs
          obtain ⟨x', _, e2, hle⟩ := hB2 i y hy
          rw [e] at e2
          cases e2
          exact ⟨y, hy, hle⟩
        · cases e'
      have hx2 : HpExt h2' φ1 h' φ1 := fun b => ⟨fun ag sz d e => by
          obtain ⟨y, hy, hle⟩ := hB3 b _ e
          cases y with
          | var ag' sz' d' => obtain ⟨rfl, rfl, _⟩ := hle; exact ⟨⟨_, hy⟩, rfl⟩
          | row => exact hle.elim,
        fun fz ver ag sz m f e => by
          obtain ⟨y, hy, hle⟩ := hB3 b _ e
          cases y with
          | var => exact hle.elim
          | row fz' ver' ag' sz' m' f' => obtain ⟨rfl, rfl, rfl, rfl, rfl, _⟩ := hle; exact ⟨_, _, _, _, hy, Nat.le_refl _, fun _ => ⟨Nat.le_refl _, rfl⟩⟩⟩
      have hk : Kept (Fz s.h φ1 S1 fs) w1 w1 := fun _ _ => rfl
      refine ⟨v, h6, v, Fz s.h φ1 S1 fs, φ1, rfl, h _ _ _ _ _ (h2 ▸ RepV.mono hx2 hk (fun _ h => h) _ _ hrep), ⟨fun b y e => ?_, fun b b' y y' c t t' l l' p p' => ?_⟩, fun b => ⟨fun ag sz d e => ?_, fun fz ver ag sz m f e => ?_⟩, fun c hc => ?_, hr.below, hz.s0, hz.slt, hz.s1⟩
      · obtain ⟨x, hx, e2, hle⟩ := hB2 b y e
        have hblk := hhp2.blk b _ e2
        revert hblk hle
        generalize impB (kp h') s.h x = z
        intro hle hblk
        cases z with
        | var ag sz d0 =>
          cases y with
          | row => exact hle.elim
          | var ag' sz' d' =>
            obtain ⟨rfl, rfl, hle⟩ := hle
            obtain ⟨c, t, g1, g2, x, vs, e, lo, hi, g3, g4, g5, g6, g7⟩ := hblk
            exact ⟨c, t, g1, g2, x, vs, e, lo, hi, g3, g4, g5, g6, hle _ _ _ _ _ (RepV.mono hx2 hk (fun _ h => h) _ _ g7)⟩
        | row fz ver ag sz n f =>
          cases y with
          | var => exact hle.elim
          | row fz' ver' ag' sz' n' f' =>
            obtain ⟨rfl, rfl, rfl, rfl, rfl, hle⟩ := hle
            refine ⟨hblk.1, fun c tot e => ?_⟩
            obtain ⟨g1, g2, g3, g4, vs, ty, lo, hi, g5, g6, g7, g8⟩ := hblk.2 c tot e
            refine ⟨g1, g2, g3, g4, vs, ty, lo, hi, g5, g6, g7, fun i hi => ?_⟩
            obtain ⟨x, k1, k2⟩ := g8 i hi
            exact ⟨x, k1, hle i hi _ _ _ k2⟩
      · obtain ⟨x, _, e2, _⟩ := hB2 b y l
        obtain ⟨x', _, e2', _⟩ := hB2 b' y' l'
        exact hhp2.inj b b' _ _ c t t' e2 e2' p p'
      · have hk2 := List.all_eq_true.1 hkeys
        obtain ⟨p, hp, e3⟩ := hmem h0 b (by rw [e]; rfl)
        have := hk2 p hp
        rw [e3] at this
        obtain ⟨y, hy⟩ := Option.isSome_iff_exists.1 this
        obtain ⟨x, hx, _, hle⟩ := hB2 b y hy
        obtain ⟨⟨d1, e4⟩, e5⟩ := (hr.ext b (by rw [hx]; rfl)).1 ag sz d e
        rw [hx] at e4
        cases e4
        cases y with
        | row => exact hle.elim
        | var ag' sz' d' => obtain ⟨rfl, rfl, _⟩ := hle; exact ⟨⟨_, hy⟩, e5⟩
      · have hk2 := List.all_eq_true.1 hkeys
        obtain ⟨p, hp, e3⟩ := hmem h0 b (by rw [e]; rfl)
        have := hk2 p hp
        rw [e3] at this
        obtain ⟨y, hy⟩ := Option.isSome_iff_exists.1 this
        obtain ⟨x, hx, _, hle⟩ := hB2 b y hy
        obtain ⟨fz2, ver2, m2, f2, e4, e5, e6⟩ := (hr.ext b (by rw [hx]; rfl)).2 _ _ _ _ _ _ e
        rw [hx] at e4
        cases e4
        cases y with
        | var => exact hle.elim
        | row fz' ver' ag' sz' n' f' => obtain ⟨rfl, rfl, rfl, rfl, rfl, _⟩ := hle; exact ⟨_, _, _, _, hy, e5, e6⟩
      · obtain ⟨b, y, t, e, hp⟩ := hc
        obtain ⟨x, hx, _, _⟩ := hB2 b y e
        exact ⟨hr.plt b x c t hx hp, hr.old b x c t hx hp⟩
    · exact h.elim
  have fin : ork ((resD E s rl).map fun ds => imp (kp h') s.h (one' ds)) (fun d' => LeV d' d) False ∧ HLe (kp h') s.h h' → LeavesInM (WF none) 0 E.P fn a.tmps (fun e w1 => ∃ v S' φ', e = .returned v ∧ RepV h' φ' S' w1 d v ∧ HpAt h' φ' S' w1 ∧ HpExt h0 φ h' φ' ∧ (∀ c, GB h' φ' c → c < w1.heap.size ∧ (w.heap.size ≤ c ∨ GB h0 φ c)) ∧ Trod (GB h0 φ) w w1 ∧
      (∀ b, S b → S' b) ∧ (∀ b, S' b → b < w1.heap.size) ∧ ∀ b, S' b → b < w.heap.size → S b ∨ GB h0 φ b) a.defers .returning w1 := fun h => by
    obtain ⟨Ds, e, _⟩ := hr.def0
    rw [show a.defers = Ds.map mark from e]
    exact leave (Nat.le_refl _) Ds a w1 e hr fun a' w' _ hr' => ret a' w' hr' h
  cases e <;> first | exact fin h | exact (show False from h).elim
end

end Go.Proofs.YtmcinfbckdiaoaaGreatDoor.Lv

set_option linter.unusedVariables false
set_option linter.unusedSimpArgs false
namespace Go.Proofs.YtmcinfbckdiaoaaGreatDoor.Lv
open Go Go.RowKit

section
variable {E : Ctx}
/-- The same under names that stand until they are wanted. -/
def AWu (E : Ctx) (c : Code) (Q : Exit → St → Prop) (s : St) : Prop := AW E c Q s
def AXu (E : Ctx) (o : Oper) (K : St → Prop) (s : St) : Prop := AX E o K s
def Ku (K : St → Prop) (s : St) : Prop := K s
def EFu (E : Ctx) (s : St) (op : Op) (K : D → St → Prop) : Prop := ef E s op K
theorem AWu_eq (c : Code) (Q : Exit → St → Prop) (s : St) : AWu E c Q s = AW E c Q s := propext Iff.rfl
theorem AXu_eq (o : Oper) (K : St → Prop) (s : St) : AXu E o K s = AX E o K s := propext Iff.rfl
theorem Ku_eq (K : St → Prop) (s : St) : Ku K s = K s := propext Iff.rfl
theorem AX_eq (o : Oper) (K : St → Prop) (s : St) : AX E o K s = match o.op with
  | .call { callee := .value f, args := ⟨xs⟩, .. } => match ev E s f with
    | .fn g cap => CallX E g (xs.map (ev E s) ++ cap) K s o.dst
    | _ => False
  | op => ork (pv E s op) (KP K s o.dst) (EFu E s op (KT K o.dst)) := propext Iff.rfl
theorem AW_skip (Q : Exit → St → Prop) (s : St) : AW E .skip Q s = Q .normal s := propext Iff.rfl
theorem AW_seq (a b : Code) (Q : Exit → St → Prop) (s : St) : AW E (.seq a b) Q s = AW E a (thn (AW E b Q) Q) s := propext Iff.rfl
theorem AW_region (id : Nat) (ops : Array Oper) (Q : Exit → St → Prop) (s : St) : AW E (.region id ops false) Q s = AR E ops ops.toList (Q .normal) s := by
  simp [AW, AReg3]
/-- May a region's operations change places? -/
structure RegOk (E : Ctx) (ops : Array Oper) : Prop where
  h : regOk E ops = true
structure RegCl (E : Ctx) (ops : Array Oper) : Prop where
  h : (!regOk E ops && regOk (E.lim noG) ops) = true
structure RegNo (E : Ctx) (ops : Array Oper) : Prop where
  h : (regOk E ops || regOk (E.lim noG) ops) = false
theorem rOk {E : Ctx} {ops : Array Oper} (h : regOk E ops = true := by decide +kernel) : RegOk E ops := ⟨h⟩
theorem rCl {E : Ctx} {ops : Array Oper} (h : (!regOk E ops && regOk (E.lim noG) ops) = true := by decide +kernel) : RegCl E ops := ⟨h⟩
theorem rNo {E : Ctx} {ops : Array Oper} (h : (regOk E ops || regOk (E.lim noG) ops) = false := by kernel_rfl) : RegNo E ops := ⟨h⟩
theorem AW_drawn (id : Nat) (ops : Array Oper) (Q : Exit → St → Prop) (s : St) (h : RegOk E ops) : AW E (.region id ops true) Q s = AR E ops ops.toList (Q .normal) s := by
  simp [AW, AReg3, h.h]
theorem AW_drawnC (id : Nat) (ops : Array Oper) (Q : Exit → St → Prop) (s : St) (h : RegCl E ops) : AW E (.region id ops true) Q s = AR (E.lim noG) ops ops.toList (Q .normal) s := by
  have := h.h
  simp only [Bool.and_eq_true, Bool.not_eq_true'] at this
  simp [AW, AReg3, this.1, this.2]
theorem AW_drawnN (id : Nat) (ops : Array Oper) (Q : Exit → St → Prop) (s : St) (h : RegNo E ops) : AW E (.region id ops true) Q s = AReg E ops true (Q .normal) s := by
  have := h.h
  simp only [Bool.or_eq_false_iff] at this
  simp [AW, AReg3, this.1, this.2]
theorem AW_cond (c : Operand) (a b : Code) (Q : Exit → St → Prop) (s : St) : AW E (.cond c a b) Q s = cnd (ev E s c) (AWu E a Q s) (AWu E b Q s) := propext Iff.rfl
theorem AW_block (id : Nat) (b : Code) (Q : Exit → St → Prop) (s : St) : AW E (.block id b) Q s = AW E b (blk id Q) s := propext Iff.rfl
theorem AW_loop (b : Code) (Q : Exit → St → Prop) (s : St) : AW E (.loop b) Q s = AL (AW E b) Q s := propext Iff.rfl
theorem AW_exit (id : Nat) (Q : Exit → St → Prop) (s : St) : AW E (.exit id) Q s = Q (.exit id) s := propext Iff.rfl
theorem AW_ret (Q : Exit → St → Prop) (s : St) : AW E .ret Q s = Q .ret s := propext Iff.rfl
theorem thn_normal (K : St → Prop) (Q : Exit → St → Prop) (s : St) : thn K Q .normal s = K s := propext Iff.rfl
theorem thn_exit (K : St → Prop) (Q : Exit → St → Prop) (i : Nat) (s : St) : thn K Q (.exit i) s = Q (.exit i) s := propext Iff.rfl
theorem thn_ret (K : St → Prop) (Q : Exit → St → Prop) (s : St) : thn K Q .ret s = Q .ret s := propext Iff.rfl
theorem blk_normal (id : Nat) (Q : Exit → St → Prop) (s : St) : blk id Q .normal s = Q .normal s := propext Iff.rfl
theorem blk_exit (id i : Nat) (Q : Exit → St → Prop) (s : St) : blk id Q (.exit i) s = if i = id then Q .normal s else Q (.exit i) s := propext Iff.rfl
theorem blk_ret (id : Nat) (Q : Exit → St → Prop) (s : St) : blk id Q .ret s = Q .ret s := propext Iff.rfl
theorem AR_nil (all : Array Oper) (K : St → Prop) (s : St) : AR E all [] K s = K s := propext Iff.rfl
theorem AR_cons (all : Array Oper) (o : Oper) (os : List Oper) (K : St → Prop) (s : St) : AR E all (o :: os) K s = AT E all o (AR E all os K) s := propext Iff.rfl
theorem AT_eq (all : Array Oper) (o : Oper) (K : St → Prop) (s : St) : AT E all o K s = match o.guard with
  | none => AX E o K s
  | some (g, want) => match (all[g]?).bind (·.dst) with
    | some t => gd (s.e t) want (AXu E o K s) (Ku K (s.put o.dst (.tup [])))
    | none => False := propext Iff.rfl
theorem KP_eq (K : St → Prop) (s : St) (dst : Option Nat) (d : D) : KP K s dst d = K (s.put dst d) := propext Iff.rfl
theorem KT_eq (K : St → Prop) (dst : Option Nat) (d : D) (s : St) : KT K dst d s = K (s.put dst d) := propext Iff.rfl
theorem put_some (e : Nat → D) (h : Hp) (nx t : Nat) (d : D) : St.put ⟨e, h, nx⟩ (some t) d = ⟨upd e t d, h, nx⟩ := Eq.trans rfl rfl
theorem put_none (s : St) (d : D) : St.put s none d = s := Eq.trans rfl rfl
theorem upd_eq (e : Nat → D) (t : Nat) (d : D) (t' : Nat) : upd e t d t' = if t' = t then d else e t' := Eq.trans rfl rfl
theorem ev_tmp (e : Nat → D) (h : Hp) (nx t : Nat) : ev E ⟨e, h, nx⟩ (.tmp t) = e t := Eq.trans rfl rfl
theorem ev_const (s : St) (v : Value) : ev E s (.const v) = ofVal v := Eq.trans rfl rfl
theorem ev_global (s : St) (g : Nat) : ev E s (.global g) = E.gv g := Eq.trans rfl rfl
theorem ev_func (s : St) (f : Nat) : ev E s (.func f) = .fn f [] := Eq.trans rfl rfl
theorem init_eq (args : List D) (h : Hp) : St.init args h = ⟨fun t => args.getD t .unk, h, mx h⟩ := Eq.trans rfl rfl
theorem retQ_normal (rl : List ResultVar) (d : D) (h' : Hp) (s : St) : retQ E rl d h' .normal s = (ork ((resD E s rl).map fun ds => imp (kp h') s.h (one' ds)) (fun d' => LeV d' d) False ∧ HLe (kp h') s.h h') := propext Iff.rfl
theorem retQ_ret (rl : List ResultVar) (d : D) (h' : Hp) (s : St) : retQ E rl d h' .ret s = (ork ((resD E s rl).map fun ds => imp (kp h') s.h (one' ds)) (fun d' => LeV d' d) False ∧ HLe (kp h') s.h h') := propext Iff.rfl
def nof : Nat → Option Nat := fun _ => none
theorem kp_nil : kp [] = nof := Eq.trans rfl rfl
theorem pos_nil : pos [] = nof := Eq.trans rfl rfl
theorem nof_eq (b : Nat) : nof b = none := Eq.trans rfl rfl
theorem kp_eq (h : Hp) (b : Nat) : kp h b = if (lookB h b).isSome then some b else none := Eq.trans rfl rfl
theorem HLe_nil (ρ : Nat → Option Nat) (H : Hp) : HLe ρ H [] = True := propext Iff.rfl
mutual
theorem cl_ex (r : Nat → Nat) : ∀ (d : D), cl d = true → exD r d = d
  | .int .., _ | .bool .., _ | .str .., _ | .nilp, _ | .nils, _ | .nilm, _ | .nilf, _ | .gl .., _ | .unk, _ | .ro .., _ | .ra .., _ => rfl
  | .sl .., h | .ad .., h | .el .., h | .vs .., h => by simp [cl] at h
  | .agg cs, h => by simp only [exD, cls_ex r cs (by simpa only [cl] using h)]
  | .tup cs, h => by simp only [exD, cls_ex r cs (by simpa only [cl] using h)]
  | .fn f cs, h => by simp only [exD, cls_ex r cs (by simpa only [cl] using h)]
theorem cls_ex (r : Nat → Nat) : ∀ (ds : List D), cls ds = true → exDs r ds = ds
  | [], _ => rfl
  | d :: ds, h => by
    simp only [cls, Bool.and_eq_true] at h
    simp only [exDs, cl_ex r d h.1, cls_ex r ds h.2]
end
mutual
theorem cl_imp (ρ : Nat → Option Nat) (H : Hp) : ∀ (d : D), cl d = true → imp ρ H d = d
  | .int .., _ | .bool .., _ | .str .., _ | .nilp, _ | .nils, _ | .nilm, _ | .nilf, _ | .gl .., _ | .unk, _ | .ro .., _ | .ra .., _ => rfl
  | .sl .., h | .ad .., h | .el .., h | .vs .., h => by simp [cl] at h
  | .agg cs, h => by simp only [imp, cls_imp ρ H cs (by simpa only [cl] using h)]
  | .tup cs, h => by simp only [imp, cls_imp ρ H cs (by simpa only [cl] using h)]
  | .fn f cs, h => by simp only [imp, cls_imp ρ H cs (by simpa only [cl] using h)]
theorem cls_imp (ρ : Nat → Option Nat) (H : Hp) : ∀ (ds : List D), cls ds = true → imps ρ H ds = ds
  | [], _ => rfl
  | d :: ds, h => by
    simp only [cls, Bool.and_eq_true] at h
    simp only [imps, cl_imp ρ H d h.1, cls_imp ρ H ds h.2]
end
mutual
theorem cl_refs (ρ : Nat → Option Nat) : ∀ (d : D), cl d = true → refs ρ d = []
  | .int .., _ | .bool .., _ | .str .., _ | .nilp, _ | .nils, _ | .nilm, _ | .nilf, _ | .gl .., _ | .unk, _ | .ro .., _ | .ra .., _ => rfl
  | .sl .., h | .ad .., h | .el .., h | .vs .., h => by simp [cl] at h
  | .agg cs, h => by simp only [refs, cls_refs ρ cs (by simpa only [cl] using h)]
  | .tup cs, h => by simp only [refs, cls_refs ρ cs (by simpa only [cl] using h)]
  | .fn f cs, h => by simp only [refs, cls_refs ρ cs (by simpa only [cl] using h)]
theorem cls_refs (ρ : Nat → Option Nat) : ∀ (ds : List D), cls ds = true → refss ρ ds = []
  | [], _ => rfl
  | d :: ds, h => by
    simp only [cls, Bool.and_eq_true] at h
    simp only [refss, cl_refs ρ d h.1, cls_refs ρ ds h.2, List.append_nil]
end
/-- A call that is given no blocks. -/
theorem callC {g : FuncId} {ds args : List D} {K : St → Prop} {s : St} {dst : Option Nat} {d : D} (hC : C E g args d) (hl : LesV (imps nof s.h ds) args) (hcl : cl d = true) (hK : K ((if flat d = true then s else s.frz (refss nof ds)).put dst d)) : CallX E g ds K s dst := by
  refine .inl ⟨[], d, [], .inr rfl, rfl, CG.args hC hl, ?_⟩
  rw [cl_ex _ d hcl]
  by_cases hf : flat d = true
  · rw [if_pos hf] at hK
    have : aft s [] [] [] = s := by simp [aft, mrg, frz_nil, mx]
    simp only [hf, List.isEmpty_nil, Bool.and_true, if_true, this]
    exact hK
  · rw [if_neg hf] at hK
    have e : (flat d && List.isEmpty ([] : Hp)) = false := by simp [hf]
    simp only [e, Bool.false_eq_true, if_false]
    have : aft s [] (fsOf s [] ds) [] = s.frz (refss nof ds) := by simp [aft, mrg, mx, fsOf, St.frz, pos_nil]
    rw [this]
    exact hK
/-- A call that is given these blocks. -/
theorem callG (bs : List Nat) {g : FuncId} {ds args : List D} {K : St → Prop} {s : St} {dst : Option Nat} {d : D} {h h' : Hp} (hC : CG E g args h d h') (hgive : E.give g = true) (hg : givOk s.h bs = true) (hl : LesV (imps (pos bs) s.h ds) args) (hh : impH (pos bs) s.h bs 0 = h)
    (hK : K ((aft s bs (if flat d && h'.isEmpty then [] else fsOf s bs ds) h').put dst (exD (ex bs s.nx) d))) : CallX E g ds K s dst :=
  .inl ⟨bs, d, h', .inl hgive, hg, by rw [hh]; exact CG.args hC hl, hK⟩
/-- A call that is lent these blocks: what it makes leads nowhere, and all is left as it was. -/
theorem callR (bs : List Nat) {g : FuncId} {ds args : List D} {K : St → Prop} {s : St} {dst : Option Nat} {d : D} {h : Hp} (hC : CG E g args h d h) (hg : givOk s.h bs = true) (hf : flatB s.h bs = true) (hfd : flat d = true) (hl : LesV (imps (pos bs) s.h ds) args) (hh : impH (pos bs) s.h bs 0 = h)
    (hK : K (s.put dst d)) : CallX E g ds K s dst :=
  .inr ⟨bs, d, hg, hf, hfd, by rw [hh]; exact CG.args hC hl, hK⟩

theorem lim_tt (gs : Nat → Bool) (t : Nat) : (E.lim gs).tt t = E.tt t := Eq.trans rfl rfl
theorem lim_gv (gs : Nat → Bool) (t : Nat) : (E.lim gs).gv t = E.gv t := Eq.trans rfl rfl
/-- In a region whose operations may change places: a call that is given no blocks. -/
theorem callCl {gs : Nat → Bool} {g : FuncId} {ds args : List D} {K : St → Prop} {s : St} {dst : Option Nat} {d : D} (hC : C E g args d) (hl : LesV (imps nof s.h ds) args) (hcl : cl d = true) (hK : K ((if flat d = true then s else s.frz (refss nof ds)).put dst d)) : CallX (E.lim gs) g ds K s dst :=
  callC (E := E.lim gs) hC hl hcl hK
theorem callGl (bs : List Nat) {gs : Nat → Bool} {g : FuncId} {ds args : List D} {K : St → Prop} {s : St} {dst : Option Nat} {d : D} {h h' : Hp} (hC : CG E g args h d h') (hgive : gs g = true) (hg : givOk s.h bs = true) (hl : LesV (imps (pos bs) s.h ds) args) (hh : impH (pos bs) s.h bs 0 = h)
    (hK : K ((aft s bs (if flat d && h'.isEmpty then [] else fsOf s bs ds) h').put dst (exD (ex bs s.nx) d))) : CallX (E.lim gs) g ds K s dst :=
  callG (E := E.lim gs) bs hC hgive hg hl hh hK

theorem callRl (bs : List Nat) {gs : Nat → Bool} {g : FuncId} {ds args : List D} {K : St → Prop} {s : St} {dst : Option Nat} {d : D} {h : Hp} (hC : CG E g args h d h) (hg : givOk s.h bs = true) (hf : flatB s.h bs = true) (hfd : flat d = true) (hl : LesV (imps (pos bs) s.h ds) args) (hh : impH (pos bs) s.h bs 0 = h)
    (hK : K (s.put dst d)) : CallX (E.lim gs) g ds K s dst :=
  callR (E := E.lim gs) bs hC hg hf hfd hl hh hK
theorem ork_some (d : D) (K : D → Prop) (F : Prop) : ork (some d) K F = K d := propext Iff.rfl
theorem ork_none (K : D → Prop) (F : Prop) : ork none K F = F := propext Iff.rfl
theorem ork_none_ef (K : D → Prop) (s : St) (op : Op) (K' : D → St → Prop) : ork none K (EFu E s op K') = ef E s op K' := propext Iff.rfl
theorem ork_grd (c : Prop) [Decidable c] (d : D) (K : D → Prop) (F : Prop) (hc : c) : ork (grd c d) K F = K d := by simp [grd, hc, ork]
theorem grd_pos (c : Prop) [Decidable c] (d : D) (hc : c) : grd c d = some d := by simp [grd, hc]
theorem grd_true [Decidable True] (d : D) : grd True d = some d := by simp [grd]
theorem bits_u64 : IntKind.u64.bits = 64 := Eq.trans rfl rfl
theorem bits_i64 : IntKind.i64.bits = 64 := Eq.trans rfl rfl
theorem bits_u32 : IntKind.u32.bits = 32 := Eq.trans rfl rfl
theorem bits_i32 : IntKind.i32.bits = 32 := Eq.trans rfl rfl
theorem bits_u8 : IntKind.u8.bits = 8 := Eq.trans rfl rfl
theorem min_pos (a b : Nat) (h : a ≤ b) : min a b = a := Nat.min_eq_left h
theorem fdiv_lit (a b : Int) (h : 0 ≤ b) : a.fdiv b = a / b := Int.fdiv_eq_ediv_of_nonneg a h
theorem shr_lit (n : Nat) : ((2 : Int) ^ n) = ((2 ^ n : Nat) : Int) := by simp
@[congr] theorem ork_congr {x y : Option D} (h : x = y) (K : D → Prop) (F : Prop) : ork x K F = ork y K F := by rw [h]
theorem gd_tt (o : Oper) (K : St → Prop) (s : St) (B : Prop) : gd (.bool true) true (AXu E o K s) B = AX E o K s := by simp [gd, AXu]
theorem gd_ff (o : Oper) (K : St → Prop) (s : St) (B : Prop) : gd (.bool false) false (AXu E o K s) B = AX E o K s := by simp [gd, AXu]
theorem gd_tf (A : Prop) (K : St → Prop) (s : St) : gd (.bool true) false A (Ku K s) = K s := by simp [gd, Ku]
theorem gd_ft (A : Prop) (K : St → Prop) (s : St) : gd (.bool false) true A (Ku K s) = K s := by simp [gd, Ku]
theorem gd_tup (ds : List D) (want : Bool) (A : Prop) (K : St → Prop) (s : St) : gd (.tup ds) want A (Ku K s) = K s := by simp [gd, Ku]
theorem gd_true (b : Bool) (o : Oper) (K K' : St → Prop) (s s' : St) : gd (.bool b) true (AXu E o K s) (Ku K' s') ↔ (b = true → AX E o K s) ∧ (b = false → K' s') := by cases b <;> simp [gd, AXu, Ku]
theorem gd_false (b : Bool) (o : Oper) (K K' : St → Prop) (s s' : St) : gd (.bool b) false (AXu E o K s) (Ku K' s') ↔ (b = false → AX E o K s) ∧ (b = true → K' s') := by cases b <;> simp [gd, AXu, Ku]
@[congr] theorem gd_congr {x y : D} (h : x = y) (w : Bool) (A B : Prop) : gd x w A B = gd y w A B := by rw [h]
theorem cnd_t (c : Code) (Q : Exit → St → Prop) (s : St) (B : Prop) : cnd (.bool true) (AWu E c Q s) B = AW E c Q s := by simp [cnd, AWu]
theorem cnd_f (c : Code) (Q : Exit → St → Prop) (s : St) (A : Prop) : cnd (.bool false) A (AWu E c Q s) = AW E c Q s := by simp [cnd, AWu]
theorem cnd_b (b : Bool) (c c' : Code) (Q Q' : Exit → St → Prop) (s s' : St) : cnd (.bool b) (AWu E c Q s) (AWu E c' Q' s') ↔ (b = true → AW E c Q s) ∧ (b = false → AW E c' Q' s') := Iff.rfl
@[congr] theorem cnd_congr {x y : D} (h : x = y) (A B : Prop) : cnd x A B = cnd y A B := by rw [h]
@[congr] theorem AL_congr {F : (Exit → St → Prop) → St → Prop} {Q : Exit → St → Prop} {s s' : St} (h : s = s') : AL F Q s = AL F Q s' := by rw [h]
@[congr] theorem CallX_congr {g : FuncId} {ds ds' : List D} {K : St → Prop} {s s' : St} {dst : Option Nat} (h : ds = ds') (h'' : s = s') : CallX E g ds K s dst = CallX E g ds' K s' dst := by rw [h, h'']

@[congr] theorem thn_congr (K : St → Prop) (Q : Exit → St → Prop) {e e' : Exit} {s s' : St} (he : e = e') (h : s = s') : thn K Q e s = thn K Q e' s' := by rw [he, h]
@[congr] theorem blk_congr (id : Nat) (Q : Exit → St → Prop) {e e' : Exit} {s s' : St} (he : e = e') (h : s = s') : blk id Q e s = blk id Q e' s' := by rw [he, h]
@[congr] theorem AR_congr (all : Array Oper) (os : List Oper) (K : St → Prop) {s s' : St} (h : s = s') : AR E all os K s = AR E all os K s' := by rw [h]
@[congr] theorem AW_congr (c : Code) (Q : Exit → St → Prop) {s s' : St} (h : s = s') : AW E c Q s = AW E c Q s' := by rw [h]
@[congr] theorem AReg_congr (all : Array Oper) (b : Bool) (K : St → Prop) {s s' : St} (h : s = s') : AReg E all b K s = AReg E all b K s' := by rw [h]
/-- The next round's state. -/
def Nxt {α : Type} (P : α → Prop) (μ : α → Nat) (L : α → List (Nat × D)) (H : α → Hp) (x : α) (s : St) : Prop :=
  ∃ x', P x' ∧ μ x' < μ x ∧ EnvLe (kp (H x')) s.h s.e (L x') ∧ HLe (kp (H x')) s.h (H x')
@[congr] theorem Nxt_congr {α : Type} (P : α → Prop) (μ : α → Nat) (L : α → List (Nat × D)) (H : α → Hp) (x : α) {s s' : St} (h : s = s') : Nxt P μ L H x s = Nxt P μ L H x s' := by rw [h]
/-- A loop: one round. -/
theorem AL.step {F : (Exit → St → Prop) → St → Prop} {Q : Exit → St → Prop} {s : St} (h : F (thn (AL F Q) Q) s) : AL F Q s := .unroll _ s h fun _ h => h
/-- A loop: what its rounds keep. -/
theorem AL.of {α : Type} (P : α → Prop) (μ : α → Nat) (L : α → List (Nat × D)) (H : α → Hp) (x : α) {F : (Exit → St → Prop) → St → Prop} {Q : Exit → St → Prop} {e : Nat → D} {h : Hp} {nx : Nat} (hx : P x) (hL : EnvLe (kp (H x)) h e (L x)) (hH : HLe (kp (H x)) h (H x))
    (hm : ∀ x, P x → mx (H x) ≤ nx) (round : ∀ x, P x → F (thn (Nxt P μ L H x) Q) ⟨look .unk (L x), H x, nx⟩) : AL F Q ⟨e, h, nx⟩ := by
  refine AL.inv (fun n s => ∃ x, P x ∧ μ x = n ∧ s = ⟨look .unk (L x), H x, nx⟩) (μ x) _ _ (Wk.gen (L x) (H x) nx (Nat.le_refl _) (hm x hx) hL hH) ⟨x, hx, rfl, rfl⟩ ?_
  rintro n s ⟨x, hx, rfl, rfl⟩
  refine ⟨Nxt P μ L H x, ?_, round x hx⟩
  rintro ⟨e', h', nx'⟩ ⟨x', h1, h2, h3, h4⟩
  exact ⟨μ x', h2, _, Wk.gen (L x') (H x') nx (Nat.le_refl _) (hm x' h1) h3 h4, x', h1, rfl, rfl⟩

theorem AW_rf (g : Operand) (p q : Nat) (a b : Code) (Q : Exit → St → Prop) (s : St) : AW E (.rangeFunc g ⟨[p, q]⟩ a b) Q s = AB E g (AW E a) (AW E b) Q p q s := propext Iff.rfl
@[congr] theorem AB_congr (g : Operand) (A W : (Exit → St → Prop) → St → Prop) (Q : Exit → St → Prop) (p q : Nat) {s s' : St} (h : s = s') : AB E g A W Q p q s = AB E g A W Q p q s' := by rw [h]
@[congr] theorem rnd_congr (n0 : Nat) (I : Nat → St → Prop) (Q : Exit → St → Prop) (t : St) (k : Nat) {e e' : Exit} {s s' : St} (he : e = e') (hs : s = s') : rnd n0 I Q t k e s = rnd n0 I Q t k e' s' := by rw [he, hs]
theorem rnd_normal (n0 : Nat) (I : Nat → St → Prop) (Q : Exit → St → Prop) (t : St) (k : Nat) (s : St) : rnd n0 I Q t k .normal s = BGo n0 I k t s := propext Iff.rfl
theorem rnd_ret (n0 : Nat) (I : Nat → St → Prop) (Q : Exit → St → Prop) (t : St) (k : Nat) (s : St) : rnd n0 I Q t k .ret s = (Onw t.h t.nx s.h s.nx ∧ Q .ret ⟨t.e, s.h, s.nx⟩) := propext Iff.rfl
theorem rnd_exit (n0 : Nat) (I : Nat → St → Prop) (Q : Exit → St → Prop) (t : St) (k i : Nat) (s : St) : rnd n0 I Q t k (.exit i) s = (Onw t.h t.nx s.h s.nx ∧ Q (.exit i) ⟨t.e, s.h, s.nx⟩) := propext Iff.rfl
@[congr] theorem bmid_congr (n0 : Nat) (I : Nat → St → Prop) (Q : Exit → St → Prop) (W : (Exit → St → Prop) → St → Prop) (t : St) (k : Nat) {s s' : St} (hs : s = s') : bmid n0 I Q W t k s = bmid n0 I Q W t k s' := by rw [hs]
theorem bmid_eq (n0 : Nat) (I : Nat → St → Prop) (Q : Exit → St → Prop) (W : (Exit → St → Prop) → St → Prop) (t : St) (k : Nat) (s1 : St) : bmid n0 I Q W t k s1 = (noFz s1.h = true ∧ Onw t.h t.nx s1.h s1.nx ∧ W (rnd n0 I Q ⟨t.e, s1.h, s1.nx⟩ k) s1) := propext Iff.rfl
@[congr] theorem BGo_congr (n0 : Nat) (I : Nat → St → Prop) (k : Nat) {t t' s s' : St} (ht : t = t') (hs : s = s') : BGo n0 I k t s = BGo n0 I k t' s' := by rw [ht, hs]
def BI {α : Type} (P : α → Prop) (μ : α → Nat) (L : α → List (Nat × D)) (H : α → Hp) (nx : Nat) (k : Nat) (s : St) : Prop := ∃ x', P x' ∧ μ x' = k ∧ s = ⟨look .unk (L x'), H x', nx⟩
/-- On to the next round. -/
theorem BGo.of {α : Type} {P : α → Prop} {μ : α → Nat} {L : α → List (Nat × D)} {H : α → Hp} {nx : Nat} (x : α) {k : Nat} {te : Nat → D} {th : Hp} {tn : Nat} {e : Nat → D} {h : Hp} {n : Nat} (ho : Onw th tn h n) (hP : P x) (hμ : μ x = k) (hm : mx (H x) ≤ nx) (hL : EnvLe (kp (H x)) h te (L x)) (hH : HLe (kp (H x)) h (H x)) :
    BGo nx (BI P μ L H nx) k ⟨te, th, tn⟩ ⟨e, h, n⟩ := ⟨ho, _, Wk.gen (L x) (H x) nx (Nat.le_refl _) hm hL hH, x, hP, hμ, rfl⟩
theorem AB.of {α : Type} (f bx : Nat) (P : α → Prop) (μ : α → Nat) (L : α → List (Nat × D)) (H : α → Hp) (x : α) {g : Operand} {A W : (Exit → St → Prop) → St → Prop} {Q : Exit → St → Prop} {p q : Nat} {e : Nat → D} {h : Hp} {nx : Nat}
    (hBW : BWC E.P f) (hx : P x) (hL : EnvLe (kp (H x)) h e (L x)) (hH : HLe (kp (H x)) h (H x)) (hg : ev E ⟨look .unk (L x), H x, nx⟩ g = .fn f [.ad bx 0])
    {y : D} (hb : lookB (H x) bx = some (.var false 1 y)) (hs : slen (H x) y = some (μ x)) (hn : μ x ≤ 9223372036854775807)
    (hfr : ∀ x', P x' → Frs (H x) nx (H x') nx ∧ noFz (H x') = true ∧ mx (H x') ≤ nx)
    (done : ∀ x', P x' → μ x' = 0 → Q .normal ⟨look .unk (L x'), H x', nx⟩)
    (round : ∀ x' k, P x' → k < μ x → μ x' = k + 1 → ∃ y d, lookB (H x') bx = some (.var false 1 y) ∧ elt (H x') y k = some d ∧
      A (thn (bmid nx (BI P μ L H nx) Q W ⟨look .unk (L x'), H x', nx⟩ k) noQ) ⟨upd (upd (look .unk (L x')) p (.int .i64 k)) q d, H x', nx⟩) : AB E g A W Q p q ⟨e, h, nx⟩ := by
  refine ⟨_, Wk.gen (L x) (H x) nx (Nat.le_refl _) (hfr x hx).2.2 hL hH, (hfr x hx).2.1, f, bx, hg, hBW, y, μ x, hb, hs, hn, BI P μ L H nx, ⟨x, hx, rfl, rfl⟩, ?_, ?_⟩
  · rintro t ⟨x', h1, h2, rfl⟩
    exact done x' h1 h2
  · rintro k t ⟨x', h1, h2, rfl⟩
    exact ⟨(hfr x' h1).1, (hfr x' h1).2.1, fun k' hk' e => round x' k' h1 hk' (h2.trans e)⟩

def KV (K : D → St → Prop) (s : St) (b : Nat) (ag : Bool) (sz : Nat) (d' : D) : Prop := K (.tup []) ⟨s.e, up s.h b (.var ag sz d'), s.nx⟩
def KR (K : D → St → Prop) (s : St) (b ver : Nat) (ag : Bool) (sz n : Nat) (f : Nat → D) (i : Nat) (d' : D) : Prop := K (.tup []) ⟨s.e, up s.h b (.row false ver ag sz n fun j => if j = i then d' else f j), s.nx⟩
def KE (K : D → St → Prop) (s : St) (b : Bool) : Prop := K (.bool b) s
theorem KV_eq (K : D → St → Prop) (s : St) (b : Nat) (ag : Bool) (sz : Nat) (d' : D) : KV K s b ag sz d' = K (.tup []) ⟨s.e, up s.h b (.var ag sz d'), s.nx⟩ := propext Iff.rfl
theorem KR_eq (K : D → St → Prop) (s : St) (b ver : Nat) (ag : Bool) (sz n : Nat) (f : Nat → D) (i : Nat) (d' : D) : KR K s b ver ag sz n f i d' = K (.tup []) ⟨s.e, up s.h b (.row false ver ag sz n fun j => if j = i then d' else f j), s.nx⟩ := propext Iff.rfl
theorem KE_eq (K : D → St → Prop) (s : St) (b : Bool) : KE K s b = K (.bool b) s := propext Iff.rfl
theorem ex_ork (x : Option D) (K : D → Prop) : (∃ d, x = some d ∧ K d) = ork x K False := propext (by cases x <;> simp [ork])
theorem ef_box (s : St) (t : Nat) (x : Operand) (K : D → St → Prop) : ef E s (.box t x) K = ((E.tt t).k ≠ .bad ∧ chk s.h (E.tt t).ag (E.tt t).sz (ev E s x) = true ∧ K (.ad s.nx 0) ⟨s.e, (s.nx, .var (E.tt t).ag (E.tt t).sz (ev E s x)) :: s.h, s.nx + 1⟩) := propext Iff.rfl
theorem ef_alloc (s : St) (t : Nat) (K : D → St → Prop) : ef E s (.alloc t) K = ((E.tt t).hz = true ∧ chk s.h (E.tt t).ag (E.tt t).sz (E.tt t).zero = true ∧ K (.ad s.nx 0) ⟨s.e, (s.nx, .var (E.tt t).ag (E.tt t).sz (E.tt t).zero) :: s.h, s.nx + 1⟩) := propext Iff.rfl
theorem ef_store (s : St) (t : Nat) (a x : Operand) (K : D → St → Prop) : ef E s (.store t a x) K = ((E.tt t).k ≠ .bad ∧ chk s.h (E.tt t).ag (E.tt t).sz (ev E s x) = true ∧ match ev E s a with
    | .ad b off => match lookB s.h b with
      | some (.var ag sz d) => ork (wr ag sz d off (E.tt t).ag (E.tt t).sz (ev E s x)) (KV K s b ag sz) False
      | _ => False
    | .el b ver i fo => match lookB s.h b with
      | some (.row false ver' ag sz n f) => ver = ver' ∧ cl (ev E s x) = true ∧ ork (wr ag sz (f i) fo (E.tt t).ag (E.tt t).sz (ev E s x)) (KR K s b ver ag sz n f i) False
      | _ => False
    | _ => False) := by
  simp only [ef]
  congr 2
  cases ev E s a <;> try rfl
  case ad b off =>
    simp only
    cases lookB s.h b with
    | none => rfl
    | some y => cases y <;> first | rfl | (simp only [← ex_ork]; rfl)
  case el b ver i fo =>
    simp only
    cases lookB s.h b with
    | none => rfl
    | some y =>
      cases y with
      | var => rfl
      | row fz ver' ag sz n f => cases fz <;> first | rfl | (simp only [← ex_ork]; rfl)
theorem ef_make (s : St) (t : Nat) (l c : Operand) (K : D → St → Prop) : ef E s (.makeSlice t l c) K = (match (E.tt t).k, ev E s l, ev E s c with
    | .slc e, .int _ n, .int _ n' => (E.tt e).hz = true ∧ (E.tt e).k ≠ .bad ∧ chk [] (E.tt e).ag (E.tt e).sz (E.tt e).zero = true ∧ (E.tt e).sz ≠ 0 ∧ n = n' ∧ 0 ≤ n ∧ n ≤ 9223372036854775807 ∧ n * (E.tt e).bytes ≤ 281474976710656 ∧
        K (.sl s.nx 0 0 n.toNat) ⟨s.e, (s.nx, .row false 0 (E.tt e).ag (E.tt e).sz n.toNat fun _ => (E.tt e).zero) :: s.h, s.nx + 1⟩
    | _, _, _ => False) := propext Iff.rfl
theorem ef_bslice (s : St) (t n : Nat) (ps : List (Nat × Operand)) (K : D → St → Prop) : ef E s (.buildSlice t n ⟨ps⟩) K = (match (E.tt t).k with
    | .slc e => (E.tt e).k ≠ .bad ∧ (E.tt e).hz = true ∧ chk [] (E.tt e).ag (E.tt e).sz (E.tt e).zero = true ∧ (E.tt e).sz ≠ 0 ∧ n * (E.tt e).sz ≤ 16777216 ∧ ps.map (·.1) = List.range n ∧ (ps.all fun p => chk s.h (E.tt e).ag (E.tt e).sz (ev E s p.2) && cl (ev E s p.2)) = true ∧
        K (.sl s.nx 0 0 n) ⟨s.e, (s.nx, .row false 0 (E.tt e).ag (E.tt e).sz n fun i => (ps.map fun p => ev E s p.2).getD i .unk) :: s.h, s.nx + 1⟩
    | _ => False) := propext Iff.rfl
theorem ef_append (s : St) (x y : Operand) (t u : Nat) (K : D → St → Prop) : ef E s (.call { callee := .builtin .append, args := ⟨[x, y]⟩, argTypes := ⟨[t, u]⟩ }) K = (match (E.tt t).k, (E.tt u).k, srcOf s.h (ev E s y) with
    | .slc e, uk, some (m, g, k) => (uk = .slc e ∨ uk = .string) ∧ (E.tt e).k ≠ .bad ∧ (E.tt e).hz = true ∧ chk [] (E.tt e).ag (E.tt e).sz (E.tt e).zero = true ∧ (E.tt e).sz ≠ 0 ∧ (k = none ∨ k = some ((E.tt e).ag, (E.tt e).sz)) ∧ match ev E s x with
      | .nils => m ≤ 9223372036854775807 ∧ m * (E.tt e).bytes ≤ 140737488355328 ∧ K (.sl s.nx 0 0 m) ⟨s.e, (s.nx, .row false 0 (E.tt e).ag (E.tt e).sz m g) :: s.h, s.nx + 1⟩
      | .sl b ver 0 n => match lookB s.h b with
        | some (.row false ver' ag sz _ f) => ver = ver' ∧ ag = (E.tt e).ag ∧ sz = (E.tt e).sz ∧ n + m ≤ 9223372036854775807 ∧ (n + m) * (E.tt e).bytes ≤ 140737488355328 ∧
            K (.sl b (ver + 1) 0 (n + m)) ⟨s.e, up s.h b (.row false (ver + 1) ag sz (n + m) fun j => if j < n then f j else g (j - n)), s.nx⟩
        | _ => False
      | _ => False
    | _, _, _ => False) := propext Iff.rfl
theorem ef_conv (s : St) (src t : Nat) (x : Operand) (K : D → St → Prop) : ef E s (.convert src t x) K = (match (E.tt src).k, (E.tt t).k, ev E s x with
    | .string, .slc e, .str l => (E.tt e).k = .int .u8 ∧ l.length ≤ 140737488355328 ∧ K (.sl s.nx 0 0 l.length) ⟨s.e, (s.nx, .row false 0 false 1 l.length fun i => .int .u8 ((l.getD i 0).toNat : Int)) :: s.h, s.nx + 1⟩
    | _, _, _ => False) := propext Iff.rfl
theorem ef_eql (s : St) (t yt : Nat) (x y : Operand) (K : D → St → Prop) : ef E s (.binOp .eql t x y yt) K = (match (E.tt t).k, ev E s x, ev E s y with
    | .slc _, .nils, .nils => K (.bool true) s
    | .slc _, .ro _ _ n _, .nils => ∀ b : Bool, (b = true → n = 0) → KE K s b
    | _, _, _ => False) := propext Iff.rfl

theorem asAgg_agg (cs : List D) : asAgg (.agg cs) = some cs := Eq.trans rfl rfl
section
variable (h : Hp)
theorem one_int (k : IntKind) (n : Int) : one h (.int k n) = true := Eq.trans rfl rfl
theorem one_bool (b : Bool) : one h (.bool b) = true := Eq.trans rfl rfl
theorem one_str (s : List UInt8) : one h (.str s) = true := Eq.trans rfl rfl
theorem one_nilp : one h .nilp = true := Eq.trans rfl rfl
theorem one_nils : one h .nils = true := Eq.trans rfl rfl
theorem one_nilm : one h .nilm = true := Eq.trans rfl rfl
theorem one_nilf : one h .nilf = true := Eq.trans rfl rfl
theorem one_ro (ag : Bool) (sz n : Nat) (f : Nat → D) : one h (.ro ag sz n f) = true := Eq.trans rfl rfl
theorem one_ra (ag : Bool) (sz : Nat) (d : D) (fo : Nat) : one h (.ra ag sz d fo) = true := Eq.trans rfl rfl
theorem one_ad (b o : Nat) : one h (.ad b o) = true := Eq.trans rfl rfl
theorem one_vs (b o e n : Nat) : one h (.vs b o e n) = true := Eq.trans rfl rfl
theorem one_fn (f : Nat) (c : List D) : one h (.fn f c) = true := Eq.trans rfl rfl
theorem one_gl (g : Nat) : one h (.gl g) = true := Eq.trans rfl rfl
theorem one_agg (cs : List D) : one h (.agg cs) = false := Eq.trans rfl rfl
theorem one_tup (cs : List D) : one h (.tup cs) = false := Eq.trans rfl rfl
theorem one_unk : one h .unk = false := Eq.trans rfl rfl
theorem one_sl (b v o n : Nat) : one h (.sl b v o n) = cur h b v := Eq.trans rfl rfl
theorem one_el (b v o n : Nat) : one h (.el b v o n) = cur h b v := Eq.trans rfl rfl
end

theorem ite_someD (c : Prop) [Decidable c] (x : D) (h : c) : (if c then some x else none) = some x := by simp [h]
theorem LeV_self (d : D) : LeV d d = True := eq_true (LeV.refl d)
theorem Le_self (d : D) : Le d d = True := eq_true (Le.refl d)
theorem LesV_self (d : List D) : LesV d d = True := eq_true (LesV.refl d)
/-- Numbers that fit. -/
theorem wrap_i64 {n : Int} (h : -9223372036854775808 ≤ n ∧ n < 9223372036854775808) : IntKind.i64.wrap n = n := by
  simp only [IntKind.wrap, IntKind.bits, IntKind.signed]
  simp
  omega
theorem wrap_i32 {n : Int} (h : -2147483648 ≤ n ∧ n < 2147483648) : IntKind.i32.wrap n = n := by
  simp only [IntKind.wrap, IntKind.bits, IntKind.signed]
  simp
  omega
theorem wrap_u64 {n : Int} (h : 0 ≤ n ∧ n < 18446744073709551616) : IntKind.u64.wrap n = n := by
  simp only [IntKind.wrap, IntKind.bits, IntKind.signed]
  simp
  omega
theorem wrap_u32 {n : Int} (h : 0 ≤ n ∧ n < 4294967296) : IntKind.u32.wrap n = n := by
  simp only [IntKind.wrap, IntKind.bits, IntKind.signed]
  simp
  omega
theorem wrap_u8 {n : Int} (h : 0 ≤ n ∧ n < 256) : IntKind.u8.wrap n = n := by
  simp only [IntKind.wrap, IntKind.bits, IntKind.signed]
  simp
  omega
theorem wrap_u32' (n : Int) : IntKind.u32.wrap n = n % 4294967296 := by
  simp only [IntKind.wrap, IntKind.bits, IntKind.signed]
  simp
theorem wrap_u64' (n : Int) : IntKind.u64.wrap n = n % 18446744073709551616 := by
  simp only [IntKind.wrap, IntKind.bits, IntKind.signed]
  simp
theorem wrap_u8' (n : Int) : IntKind.u8.wrap n = n % 256 := by
  simp only [IntKind.wrap, IntKind.bits, IntKind.signed]
  simp
end

end Go.Proofs.YtmcinfbckdiaoaaGreatDoor.Lv

set_option linter.unusedVariables false
set_option linter.unusedSimpArgs false
namespace Go.Proofs.YtmcinfbckdiaoaaGreatDoor.Lv
open Go Go.RowKit

/-- A nil slice is an empty row, without memory. -/
theorem Wk.nil {n : Nat} {e : Nat → D} {h : Hp} {nx : Nat} (t0 : Nat) (ag : Bool) (sz : Nat) (f : Nat → D) (he : e t0 = .nils) (hsz : n ≤ nx) : Wk n ⟨e, h, nx⟩ ⟨upd e t0 (.sl nx 0 0 0), (nx, .row false 0 ag sz 0 f) :: h, nx + 1⟩ := by
  intro B φ S a w hnB hr
  let φ' : Ph := fun b => if b = nx then none else φ b
  have hne : ∀ b x, lookB h b = some x → b ≠ nx := fun b x hl e => by have := hr.nx b x hl; simp only at this; omega
  have hlk : ∀ b x, lookB h b = some x → lookB ((nx, Blk.row false 0 ag sz 0 f) :: h) b = some x := fun b x hl => by
    simp only [lookB]; rw [if_neg (hne b x hl)]; exact hl
  have hlk' : ∀ b x, lookB ((nx, Blk.row false 0 ag sz 0 f) :: h) b = some x → (b = nx ∧ x = .row false 0 ag sz 0 f) ∨ (b ≠ nx ∧ lookB h b = some x) := fun b x hl => by
    simp only [lookB] at hl
    split at hl
    · rename_i e; cases hl; exact .inl ⟨e, rfl⟩
    · rename_i e; exact .inr ⟨e, hl⟩
  have hx : HpExt h φ ((nx, .row false 0 ag sz 0 f) :: h) φ' := fun b =>
    ⟨fun ag' sz' d hl => ⟨⟨d, hlk _ _ hl⟩, if_neg (hne _ _ hl)⟩, fun fz ver ag' sz' m g hl => ⟨fz, ver, m, g, hlk _ _ hl, Nat.le_refl _, fun _ => ⟨Nat.le_refl _, if_neg (hne _ _ hl)⟩⟩⟩
  have hk : Kept S w w := fun _ _ => rfl
  refine ⟨φ', S, fun t => ?_, hr.size, ⟨fun b x hl => ?_, fun b b' x x' c t t' hl hl' hp hp' => ?_⟩, fun b x hl => ?_, hr.slt, fun b x c t hl hp => ?_, fun b x c t hl hp => ?_, hr.s0, hr.s1, hr.below, ?_, ?_, ?_⟩
  · by_cases e : t = t0
    · subst e
      have hv := hr.env t
      simp only [he, RepV, Rep0] at hv
      simp only [upd, if_true, RepV]
      exact ⟨false, 0, ag, sz, 0, f, by simp [lookB], Nat.le_refl _, fun _ => ⟨by omega, none, 0, hv, by omega, fun _ => ⟨rfl, rfl⟩, fun c tot hc => by simp [φ'] at hc⟩⟩
    · simp only [upd, if_neg e]
      exact RepV.mono hx hk (fun _ h => h) _ _ (hr.env t)
  · rcases hlk' b x hl with ⟨rfl, rfl⟩ | ⟨hb, hl⟩
    · exact ⟨fun _ => rfl, fun c tot hc => by simp [φ'] at hc⟩
    · exact BlkAt.move hx hk (fun _ h => h) (if_neg hb) (fun _ _ _ => rfl) (fun _ _ _ h => h) (hr.hp.blk b x hl)
  · rcases hlk' b x hl with ⟨rfl, rfl⟩ | ⟨hb, hl⟩
    · simp [φ'] at hp
    · rcases hlk' b' x' hl' with ⟨rfl, rfl⟩ | ⟨hb', hl'⟩
      · simp [φ'] at hp'
      · simp only [φ', if_neg hb] at hp
        simp only [φ', if_neg hb'] at hp'
        exact hr.hp.inj b b' x x' c t t' hl hl' hp hp'
  · rcases hlk' b x hl with ⟨rfl, rfl⟩ | ⟨hb, hl⟩
    · exact Nat.lt_succ_self _
    · exact Nat.lt_succ_of_lt (hr.nx b x hl)
  · rcases hlk' b x hl with ⟨rfl, rfl⟩ | ⟨hb, hl⟩
    · simp [φ'] at hp
    · simp only [φ', if_neg hb] at hp; exact hr.plt b x c t hl hp
  · rcases hlk' b x hl with ⟨rfl, rfl⟩ | ⟨hb, hl⟩
    · simp [φ'] at hp
    · simp only [φ', if_neg hb] at hp; exact hr.old b x c t hl hp
  · refine hr.ext.trans hx fun b hb => ?_
    obtain ⟨x, hl⟩ := Option.isSome_iff_exists.1 hb
    rcases hlk' b x hl with ⟨rfl, rfl⟩ | ⟨hb, hl⟩
    · right
      cases h0 : lookB B.h0 b with
      | none => rfl
      | some y => have h1 := mx_lt h0; have h2 := hr.nx0; simp only at h2; omega
    · left; rw [hl]; rfl
  · exact Nat.le_succ_of_le hr.nx0
  · refine hr.def0.move fun D h1 h2 h3 h4 => ⟨rfl, h3, fun b x c t hl hp => ?_⟩
    rcases hlk' b x hl with ⟨rfl, rfl⟩ | ⟨hb, hl⟩
    · simp [φ'] at hp
    · simp only [φ', if_neg hb] at hp; exact h4 b x c t hl hp
/-- A loop that appends to what is nil at first: the row has the number 'nx'. -/
theorem AL.ofN (t0 : Nat) (ag : Bool) (sz : Nat) (f : Nat → D) {α : Type} (P : α → Prop) (μ : α → Nat) (L : α → List (Nat × D)) (H : α → Hp) (x : α) {F : (Exit → St → Prop) → St → Prop} {Q : Exit → St → Prop} {e : Nat → D} {h : Hp} {nx : Nat} (he : e t0 = .nils) (hx : P x)
    (hL : EnvLe (kp (H x)) ((nx, .row false 0 ag sz 0 f) :: h) (upd e t0 (.sl nx 0 0 0)) (L x)) (hH : HLe (kp (H x)) ((nx, .row false 0 ag sz 0 f) :: h) (H x))
    (hm : ∀ x, P x → mx (H x) ≤ nx + 1) (round : ∀ x, P x → F (thn (Nxt P μ L H x) Q) ⟨look .unk (L x), H x, nx + 1⟩) : AL F Q ⟨e, h, nx⟩ := by
  refine AL.inv (fun n s => ∃ x, P x ∧ μ x = n ∧ s = ⟨look .unk (L x), H x, nx + 1⟩) (μ x) _ _ ((Wk.nil t0 ag sz f he (Nat.le_refl _)).trans (Wk.gen (L x) (H x) (nx + 1) (Nat.le_succ _) (hm x hx) hL hH)) ⟨x, hx, rfl, rfl⟩ ?_
  rintro n s ⟨x, hx, rfl, rfl⟩
  refine ⟨Nxt P μ L H x, ?_, round x hx⟩
  rintro ⟨e', h', nx'⟩ ⟨x', h1, h2, h3, h4⟩
  exact ⟨μ x', h2, _, Wk.gen (L x') (H x') (nx + 1) (Nat.le_succ _) (hm x' h1) h3 h4, x', h1, rfl, rfl⟩

/-- Slots that hold just this. -/
def EnvEq (e : Nat → D) : List (Nat × D) → Prop
  | [] => True
  | (t, d) :: r => e t = d ∧ EnvEq e r
theorem EnvEq_nil (e : Nat → D) : EnvEq e [] = True := Eq.trans rfl rfl
theorem EnvEq_cons (e : Nat → D) (t : Nat) (d : D) (r : List (Nat × D)) : EnvEq e ((t, d) :: r) = (e t = d ∧ EnvEq e r) := Eq.trans rfl rfl
attribute [go_sem] EnvEq_nil EnvEq_cons
section
variable {E : Ctx}
/-- From here on only these slots are told. -/
theorem CallX_env (L : List (Nat × D)) {g : FuncId} {ds : List D} {K : St → Prop} {e : Nat → D} {h : Hp} {nx : Nat} {dst : Option Nat} (hL : EnvEq e L) (k : ∀ e', EnvEq e' L → CallX E g ds K ⟨e', h, nx⟩ dst) : CallX E g ds K ⟨e, h, nx⟩ dst := k e hL
theorem AR_env (L : List (Nat × D)) {all : Array Oper} {os : List Oper} {K : St → Prop} {e : Nat → D} {h : Hp} {nx : Nat} (hL : EnvEq e L) (k : ∀ e', EnvEq e' L → AR E all os K ⟨e', h, nx⟩) : AR E all os K ⟨e, h, nx⟩ := k e hL
theorem AW_env (L : List (Nat × D)) {c : Code} {Q : Exit → St → Prop} {e : Nat → D} {h : Hp} {nx : Nat} (hL : EnvEq e L) (k : ∀ e', EnvEq e' L → AW E c Q ⟨e', h, nx⟩) : AW E c Q ⟨e, h, nx⟩ := k e hL
end
/-- Decisions. -/
theorem dlt_t {a b : Int} (h : a < b) : decide (a < b) = true := decide_eq_true h
theorem dlt_f {a b : Int} (h : b ≤ a) : decide (a < b) = false := decide_eq_false (by omega)
theorem dle_t {a b : Int} (h : a ≤ b) : decide (a ≤ b) = true := decide_eq_true h
theorem dle_f {a b : Int} (h : b < a) : decide (a ≤ b) = false := decide_eq_false (by omega)
theorem dgt_t {a b : Int} (h : b < a) : decide (a > b) = true := decide_eq_true h
theorem dgt_f {a b : Int} (h : a ≤ b) : decide (a > b) = false := decide_eq_false (by omega)
theorem dge_t {a b : Int} (h : b ≤ a) : decide (a ≥ b) = true := decide_eq_true h
theorem dge_f {a b : Int} (h : a < b) : decide (a ≥ b) = false := decide_eq_false (by omega)
theorem ieq_t {a b : Int} (h : a = b) : (a == b) = true := by simp [h]
theorem ieq_f {a b : Int} (h : a < b ∨ b < a) : (a == b) = false := by rw [beq_eq_false_iff_ne]; omega
theorem ine_t {a b : Int} (h : a < b ∨ b < a) : (a != b) = true := by rw [bne_iff_ne]; omega
theorem ine_f {a b : Int} (h : a = b) : (a != b) = false := by simp [h]
attribute [go_sem] dlt_t dlt_f dle_t dle_f dgt_t dgt_f dge_t dge_f ieq_t ieq_f ine_t ine_f
end Go.Proofs.YtmcinfbckdiaoaaGreatDoor.Lv

set_option linter.unusedVariables false
set_option linter.unusedSimpArgs false
namespace Go.Proofs.YtmcinfbckdiaoaaGreatDoor.Lv
open Go Go.RowKit
/-- A loop that appends to two slots that are nil at first: the rows have the numbers 'nx' and 'nx + 1'. -/
theorem AL.ofNN (t0 t1 : Nat) (ag0 ag1 : Bool) (sz0 sz1 : Nat) (f0 f1 : Nat → D) {α : Type} (P : α → Prop) (μ : α → Nat) (L : α → List (Nat × D)) (H : α → Hp) (x : α) {F : (Exit → St → Prop) → St → Prop} {Q : Exit → St → Prop} {e : Nat → D} {h : Hp} {nx : Nat} (he0 : e t0 = .nils) (he1 : e t1 = .nils) (hne : t1 ≠ t0) (hx : P x)
    (hL : EnvLe (kp (H x)) ((nx + 1, .row false 0 ag1 sz1 0 f1) :: (nx, .row false 0 ag0 sz0 0 f0) :: h) (upd (upd e t0 (.sl nx 0 0 0)) t1 (.sl (nx + 1) 0 0 0)) (L x)) (hH : HLe (kp (H x)) ((nx + 1, .row false 0 ag1 sz1 0 f1) :: (nx, .row false 0 ag0 sz0 0 f0) :: h) (H x))
    (hm : ∀ x, P x → mx (H x) ≤ nx + 2) (round : ∀ x, P x → F (thn (Nxt P μ L H x) Q) ⟨look .unk (L x), H x, nx + 2⟩) : AL F Q ⟨e, h, nx⟩ := by
  refine AL.inv (fun n s => ∃ x, P x ∧ μ x = n ∧ s = ⟨look .unk (L x), H x, nx + 2⟩) (μ x) _ _ (((Wk.nil t0 ag0 sz0 f0 he0 (Nat.le_refl _)).trans (Wk.nil t1 ag1 sz1 f1 (by simp only [upd, if_neg hne]; exact he1) (Nat.le_succ _))).trans (Wk.gen (L x) (H x) (nx + 2) (Nat.le_add_right _ 2) (hm x hx) hL hH)) ⟨x, hx, rfl, rfl⟩ ?_
  rintro n s ⟨x, hx, rfl, rfl⟩
  refine ⟨Nxt P μ L H x, ?_, round x hx⟩
  rintro ⟨e', h', nx'⟩ ⟨x', h1, h2, h3, h4⟩
  exact ⟨μ x', h2, _, Wk.gen (L x') (H x') (nx + 2) (Nat.le_add_right _ 2) (hm x' h1) h3 h4, x', h1, rfl, rfl⟩
end Go.Proofs.YtmcinfbckdiaoaaGreatDoor.Lv
