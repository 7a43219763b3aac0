/- The abstract machine: a region whose order is drawn. -/
import Derived.Test.YtpobbfhdkbnpmaaDoorLvo
set_option linter.unusedVariables false
set_option linter.unusedSimpArgs false
namespace Go.Proofs.YtpobbfhdkbnpmaaDoor.Lv
open Go Go.RowKit

/-- Looks at no block at all. -/
def isR : Op → Bool
  | .move .. | .assign .. | .pick .. | .field .. | .binOp .. | .unOp .. | .index .. | .extract .. | .makeFunc .. => true
  | .call c => match c.callee with
    | .builtin .min | .builtin .max => true
    | _ => false
  | _ => false
/-- May x, which only reckons or reads, and y change places? -/
def okP (E : Ctx) (x y : Op) : Bool := isP E x && match kd E y with
  | .pure | .call | .new => true
  | .sto => isR x || !isLoad x
  | .oth => isR x
def okPair (E : Ctx) (ops : Array Oper) (x y : Oper) : Bool := x.apart ops y && (okP E x.op y.op || okP E y.op x.op)

section
variable {E : Ctx} {B : Base} {s : St} {ops : Array Oper}

theorem pv_R {s s' : St} {op : Op} (hr : isR op = true) (he : ∀ x ∈ op.operands, ev E s x = ev E s' x) : pv E s op = pv E s' op := by
  cases op <;> simp only [isR, Bool.false_eq_true] at hr
  case move x => simp only [pv, he x (by simp [Op.operands])]
  case assign x => simp only [pv, he x (by simp [Op.operands])]
  case pick c a b => simp only [pv, he c (by simp [Op.operands]), he a (by simp [Op.operands]), he b (by simp [Op.operands])]
  case field t x i => simp only [pv, he x (by simp [Op.operands])]
  case binOp op t x y yt => simp only [pv, he x (by simp [Op.operands]), he y (by simp [Op.operands])]
  case unOp op t x => simp only [pv, he x (by simp [Op.operands])]
  case index t x i => simp only [pv, he x (by simp [Op.operands]), he i (by simp [Op.operands])]
  case extract x i => simp only [pv, he x (by simp [Op.operands])]
  case makeFunc fn first cap =>
    obtain ⟨first⟩ := first
    obtain ⟨cap⟩ := cap
    have : cap.map (ev E s) = cap.map (ev E s') := List.map_congr_left fun x hx => he x (by simp [Op.operands, hx])
    cases fn <;> cases first <;> simp only [pv, this]
  case call c =>
    obtain ⟨callee, ⟨args⟩, ⟨tys⟩⟩ := c
    cases callee with
    | value f => cases hr
    | invoke r n => cases hr
    | builtin bi =>
      cases bi <;> simp only [Bool.false_eq_true] at hr
      all_goals
        match args with
        | [x, y] => simp only [pv, he x (by simp [Op.operands, Call.operands]), he y (by simp [Op.operands, Call.operands])]
        | [] => rfl
        | [_] => rfl
        | _ :: _ :: _ :: _ => rfl

mutual
theorem blks_some {H : Hp} {φ : Ph} {S : Nat → Prop} {w : World} : ∀ (d : D) (v : Value), RepV H φ S w d v → ∀ b ∈ blks d, ∃ x, lookB H b = some x
  | .int .., _, _, _, hb | .bool .., _, _, _, hb | .str .., _, _, _, hb | .nilp, _, _, _, hb | .nils, _, _, _, hb | .nilm, _, _, _, hb | .nilf, _, _, _, hb | .gl .., _, _, _, hb | .unk, _, _, _, hb | .ro .., _, _, _, hb | .ra .., _, _, _, hb => by simp [blks] at hb
  | .sl b' ver off n, v, h, b, hb => by
    simp only [blks, List.mem_singleton] at hb
    subst hb
    simp only [RepV] at h
    obtain ⟨fz, ver', ag, sz, m, f, hl, _⟩ := h
    exact ⟨_, hl⟩
  | .ad b' off, v, h, b, hb => by
    simp only [blks, List.mem_singleton] at hb
    subst hb
    simp only [RepV] at h
    obtain ⟨ag, sz, d, c, t, hl, _⟩ := h
    exact ⟨_, hl⟩
  | .el b' ver i fo, v, h, b, hb => by
    simp only [blks, List.mem_singleton] at hb
    subst hb
    simp only [RepV] at h
    obtain ⟨fz, ver', ag, sz, m, f, hl, _⟩ := h
    exact ⟨_, hl⟩
  | .vs b' off esz n, v, h, b, hb => by
    simp only [blks, List.mem_singleton] at hb
    subst hb
    simp only [RepV] at h
    obtain ⟨ag, sz, d, c, t, a, cap, hl, _⟩ := h
    exact ⟨_, hl⟩
  | .agg cs, v, h, b, hb => by
    simp only [RepV, blks] at h hb
    obtain ⟨vs, e, h⟩ := h
    exact blkss_some cs vs h b hb
  | .tup cs, v, h, b, hb => by
    simp only [RepV, blks] at h hb
    obtain ⟨vs, e, h⟩ := h
    exact blkss_some cs vs h b hb
  | .fn f cs, v, h, b, hb => by
    simp only [RepV, blks] at h hb
    obtain ⟨vs, e, h⟩ := h
    exact blkss_some cs vs h b hb
theorem blkss_some {H : Hp} {φ : Ph} {S : Nat → Prop} {w : World} : ∀ (ds : List D) (vs : List Value), RepVs H φ S w ds vs → ∀ b ∈ blkss ds, ∃ x, lookB H b = some x
  | [], vs, h, b, hb => by simp [blkss] at hb
  | d :: ds, vs, h, b, hb => by
    simp only [RepVs, blkss, List.mem_append] at h hb
    obtain ⟨v, vs', e, h1, h2⟩ := h
    rcases hb with hb | hb
    · exact blks_some d v h1 b hb
    · exact blkss_some ds vs' h2 b hb
end
theorem ev_blks (hB : BOK E B) (hL : Live B s) (x : Operand) : ∀ b ∈ blks (ev E s x), b < s.nx := fun b hb => by
  obtain ⟨φ, S, a, w, hr⟩ := hL
  obtain ⟨y, hy⟩ := blks_some _ _ (hr.ev (hB.gok hr) x) b hb
  exact hr.nx b y hy

/-- What x comes to is not touched by y. -/
theorem pvG_stable {x : Oper} {y : Op} (hok : okP E x.op y = true) (hB : BOK E B) (hL : Live B s) {h : Hp} (hh : HRel (kd E y) s.h s.nx h) {e' : Nat → D} {nx : Nat}
    (ha : ∀ z ∈ x.op.operands, ev E s z = ev E ⟨e', h, nx⟩ z) (hg : ∀ g want t, x.guard = some (g, want) → (ops[g]?).bind (·.dst) = some t → s.e t = e' t) : pvG E ops x ⟨e', h, nx⟩ = pvG E ops x s := by
  have key : pv E s x.op = pv E ⟨e', h, nx⟩ x.op := by
    simp only [okP, Bool.and_eq_true] at hok
    obtain ⟨_, hok⟩ := hok
    cases hk : kd E y <;> rw [hk] at hok hh <;> simp only [HRel] at hh
    case pure => subst hh; exact pv_congr ha fun z hz b hb => Same.of_eq rfl
    case call => exact pv_congr ha fun z hz b hb => hh b (ev_blks hB hL z b hb)
    case new => exact pv_congr ha fun z hz b hb => Same.of_eq (hh b (Nat.ne_of_lt (ev_blks hB hL z b hb)))
    case sto =>
      simp only [Bool.or_eq_true, Bool.not_eq_true'] at hok
      rcases hok with hok | hok
      · exact pv_R hok ha
      · exact pv_congrS hok ha fun z hz b hb => hh b
    case oth => exact pv_R hok ha
  unfold pvG
  cases hgu : x.guard with
  | none => exact key.symm
  | some q =>
    obtain ⟨g, want⟩ := q
    simp only
    cases ht : (ops[g]?).bind (·.dst) with
    | none => rfl
    | some t =>
      simp only
      rw [← hg g want t hgu ht, key]

theorem put_swap (e : Nat → D) (h h' : Hp) (nx nx' : Nat) {x y : Option Nat} (hne : ∀ d, x = some d → y ≠ some d) (dx dy : D) :
    ((⟨(St.put ⟨e, h', nx'⟩ x dx).e, h, nx⟩ : St).put y dy) = ((⟨e, h, nx⟩ : St).put y dy).put x dx := by
  cases x with
  | none => cases y <;> rfl
  | some tx =>
    cases y with
    | none => rfl
    | some ty =>
      have : tx ≠ ty := fun e => hne tx rfl (by rw [e])
      simp only [St.put, St.mk.injEq, and_true]
      funext t
      simp only [upd]
      by_cases h1 : t = ty <;> by_cases h2 : t = tx <;> simp_all
theorem agree_put {op : Op} {dst : Option Nat} {d : D} {h h' : Hp} {nx nx' : Nat} {e : Nat → D} (hn : ∀ t, dst = some t → (Operand.tmp t) ∉ op.operands) : ∀ z ∈ op.operands, ev E ⟨e, h, nx⟩ z = ev E (St.put ⟨e, h', nx'⟩ dst d) z := fun z hz => by
  cases dst with
  | none => cases z <;> rfl
  | some t =>
    cases z with
    | tmp t' =>
      have : t' ≠ t := fun e => hn t rfl (e ▸ hz)
      simp [ev, St.put, upd, this]
    | _ => rfl
theorem looks_operand {o : Oper} {t : Nat} (h : t ∉ o.looksAt ops) : (Operand.tmp t) ∉ o.op.operands := fun hm => h (List.mem_append_left _ (List.mem_filterMap.2 ⟨.tmp t, by simpa using hm, rfl⟩))
theorem looks_guard {o : Oper} {g : Nat} {want : Bool} {t : Nat} (hg : o.guard = some (g, want)) (ht : (ops[g]?).bind (·.dst) = some t) : t ∈ o.looksAt ops :=
  List.mem_append_right _ (by simp [hg, ht])
theorem agreeT_put {o : Oper} {dst : Option Nat} (hn : ∀ t, dst = some t → t ∉ o.looksAt ops) (d : D) {h h' : Hp} {nx nx' : Nat} {e : Nat → D} : AgreeT E ops o ⟨e, h, nx⟩ (St.put ⟨e, h', nx'⟩ dst d).e :=
  ⟨fun z hz => by
    have := agree_put (E := E) (op := o.op) (dst := dst) (d := d) (h := h) (nx := nx) (h' := h') (nx' := nx') (e := e) (fun t ht => looks_operand (hn t ht)) z hz
    cases z <;> exact this,
   fun g want t hg ht => by
    cases dst with
    | none => rfl
    | some t' =>
      have : t ≠ t' := fun e => hn t' rfl (e ▸ looks_guard hg ht)
      simp [St.put, upd, this]⟩

/-- x ahead of y: y may come ahead of x. -/
theorem comm1 {x y : Oper} (hap : x.apart ops y = true) (hok : okP E x.op y.op = true) (hB : BOK E B) (hL : Live B s) {K : St → Prop} (h : AT E ops x (AT E ops y K) s) : AT E ops y (AT E ops x K) s := by
  obtain ⟨a1, a2, a3⟩ := Oper.apart_spec hap
  have hp : isP E x.op = true := by simp only [okP, Bool.and_eq_true] at hok; exact hok.1
  obtain ⟨dx, hpx, hy⟩ := (AT_pure hp _).1 h
  have hs : ∀ (h1 : Hp) (nx : Nat) (dy : D), HRel (kd E y.op) s.h s.nx h1 → pvG E ops x ((⟨s.e, h1, nx⟩ : St).put y.dst dy) = some dx := fun h1 nx dy hh => by
    rw [← hpx]
    have : ((⟨s.e, h1, nx⟩ : St).put y.dst dy) = ⟨((⟨s.e, h1, nx⟩ : St).put y.dst dy).e, h1, nx⟩ := by cases y.dst <;> rfl
    rw [this]
    have ag := agreeT_put (E := E) (o := x) (ops := ops) (dst := y.dst) a3 dy (h := s.h) (h' := h1) (nx := s.nx) (nx' := nx) (e := s.e)
    refine pvG_stable hok hB hL hh (fun z hz => ?_) ag.2
    have := ag.1 z hz
    cases z <;> exact this
  have hb : (s.put x.dst dx).h = s.h ∧ (s.put x.dst dx).nx = s.nx := ⟨St.put_h .., St.put_nx ..⟩
  have ag : AgreeT E ops y (s.put x.dst dx) s.e := by
    have := agreeT_put (E := E) (o := y) (ops := ops) (dst := x.dst) a1 dx (h := s.h) (h' := s.h) (nx := s.nx) (nx' := s.nx) (e := s.e)
    refine ⟨fun z hz => ?_, fun g want t hg ht => (this.2 g want t hg ht).symm⟩
    have := this.1 z hz
    cases z <;> exact this.symm
  rcases AT_det hy with ⟨dy, h1, nx, h2, h3, h4⟩ | ⟨p, h1, h2, h3⟩
  · rw [hb.1, hb.2] at h2
    have := h4 s.e (AT E ops x K) ag ((AT_pure hp _).2 ⟨dx, hs h1 nx dy h2, by
      rw [← put_swap (h' := s.h) (nx' := s.nx) (hne := a2)]
      exact h3⟩)
    rw [hb.1, hb.2] at this
    exact this
  · have := h3 s.e (AT E ops x K) ag fun b hbp => (AT_pure hp _).2 ⟨dx, by
      rw [hb.1, hb.2]
      exact hs s.h s.nx (.bool b) (HRel.refl _ _ _), by
      rw [hb.1, hb.2]
      rw [← put_swap (h' := s.h) (nx' := s.nx) (hne := a2)]
      have := h2 b hbp
      rw [show (s.put x.dst dx) = ⟨(s.put x.dst dx).e, s.h, s.nx⟩ by cases x.dst <;> rfl] at this
      exact this⟩
    rw [hb.1, hb.2] at this
    exact this
/-- y ahead of x: x may come ahead of y. -/
theorem comm2 {x y : Oper} (hap : y.apart ops x = true) (hok : okP E x.op y.op = true) (hB : BOK E B) (hL : Live B s) {K : St → Prop} (h : AT E ops y (AT E ops x K) s) : AT E ops x (AT E ops y K) s := by
  obtain ⟨a1, a2, a3⟩ := Oper.apart_spec hap
  have hp : isP E x.op = true := by simp only [okP, Bool.and_eq_true] at hok; exact hok.1
  have a2' : ∀ d, x.dst = some d → y.dst ≠ some d := fun d hx hy => a2 d hy hx
  have hs : ∀ (h1 : Hp) (nx : Nat) (dy : D), HRel (kd E y.op) s.h s.nx h1 → pvG E ops x ((⟨s.e, h1, nx⟩ : St).put y.dst dy) = pvG E ops x s := fun h1 nx dy hh => by
    have : ((⟨s.e, h1, nx⟩ : St).put y.dst dy) = ⟨((⟨s.e, h1, nx⟩ : St).put y.dst dy).e, h1, nx⟩ := by cases y.dst <;> rfl
    rw [this]
    have ag := agreeT_put (E := E) (o := x) (ops := ops) (dst := y.dst) a1 dy (h := s.h) (h' := h1) (nx := s.nx) (nx' := nx) (e := s.e)
    refine pvG_stable hok hB hL hh (fun z hz => ?_) ag.2
    have := ag.1 z hz
    cases z <;> exact this
  have ag : ∀ dx, AgreeT E ops y s (s.put x.dst dx).e := fun dx => by
    have := agreeT_put (E := E) (o := y) (ops := ops) (dst := x.dst) a3 dx (h := s.h) (h' := s.h) (nx := s.nx) (nx' := s.nx) (e := s.e)
    exact this
  have fin : ∀ dx, AT E ops y K ⟨(s.put x.dst dx).e, s.h, s.nx⟩ → AT E ops y K (s.put x.dst dx) := fun dx h => by
    rwa [show (s.put x.dst dx) = ⟨(s.put x.dst dx).e, s.h, s.nx⟩ by cases x.dst <;> rfl]
  rcases AT_det h with ⟨dy, h1, nx, h2, h3, h4⟩ | ⟨p, h1, h2, h3⟩
  · obtain ⟨dx, h5, h6⟩ := (AT_pure hp _).1 h3
    rw [hs h1 nx dy h2] at h5
    refine (AT_pure hp _).2 ⟨dx, h5, fin dx (h4 _ K (ag dx) ?_)⟩
    have := put_swap s.e h1 s.h nx s.nx (x := x.dst) (y := y.dst) a2' dx dy
    rw [show (St.put s x.dst dx).e = (St.put ⟨s.e, s.h, s.nx⟩ x.dst dx).e from rfl, this]
    exact h6
  · obtain ⟨dx, h5, _⟩ := (AT_pure hp _).1 (h2 false h1)
    have h5' : pvG E ops x s = some dx := (hs s.h s.nx (.bool false) (HRel.refl _ _ _)).symm.trans h5
    refine (AT_pure hp _).2 ⟨dx, h5', fin dx (h3 _ K (ag dx) fun b hb => ?_)⟩
    obtain ⟨dx', h6, h7⟩ := (AT_pure hp _).1 (h2 b hb)
    have : pvG E ops x s = some dx' := (hs s.h s.nx (.bool b) (HRel.refl _ _ _)).symm.trans h6
    rw [h5'] at this
    cases this
    have := put_swap s.e s.h s.h s.nx s.nx (x := x.dst) (y := y.dst) a2' dx (.bool b)
    rw [show (St.put s x.dst dx).e = (St.put ⟨s.e, s.h, s.nx⟩ x.dst dx).e from rfl, this]
    exact h7
theorem apart_symm {x y : Oper} (h : x.apart ops y = true) : y.apart ops x = true := by
  obtain ⟨a1, a2, a3⟩ := Oper.apart_spec h
  have h1 : ∀ d, x.dst = some d → ((y.looksAt ops).contains d) = false := fun d hd => by simpa using a1 d hd
  have h3 : ∀ d, y.dst = some d → ((x.looksAt ops).contains d) = false := fun d hd => by simpa using a3 d hd
  unfold Oper.apart
  cases hx : x.dst with
  | none => cases hy : y.dst with
    | none => simp
    | some dy => have := h3 dy hy; simp_all
  | some dx => cases hy : y.dst with
    | none => have := h1 dx hx; simp_all
    | some dy =>
      have e1 := h1 dx hx
      have e3 := h3 dy hy
      have e2 := a2 dx hx
      rw [hy] at e2
      have e4 : dx ≠ dy := fun e => e2 (by rw [e])
      simp_all
theorem comm {x y : Oper} (hok : okPair E ops x y = true) (hB : BOK E B) (hL : Live B s) {K : St → Prop} (h : AT E ops x (AT E ops y K) s) : AT E ops y (AT E ops x K) s := by
  simp only [okPair, Bool.and_eq_true, Bool.or_eq_true] at hok
  rcases hok with ⟨h1, h2 | h2⟩
  · exact comm1 h1 h2 hB hL h
  · exact comm2 h1 h2 hB hL h

/-- Behind an operation something is alive. -/
theorem AT_live {o : Oper} (hB : BOK E B) (hL : Live B s) (hd : dstOk B.N o = true) {K : St → Prop} (h : AT E ops o K s) : ∃ s', Live B s' ∧ K s' := by
  obtain ⟨φ, S, a, w, hr⟩ := hL
  unfold AT at h
  split at h
  · exact (AX_runs hB hr (dstOk.spec hd) h).live
  · rename_i g want hg
    split at h
    · rename_i t ht
      unfold gd at h
      split at h
      · rename_i b hb
        by_cases e : b = want
        · exact (AX_runs hB hr (dstOk.spec hd) (h.1 e)).live
        · exact ⟨_, ⟨_, _, _, _, hr.put (d := .tup []) (v := undef) (by simp only [RepV, RepVs, undef]; exact ⟨[], rfl, rfl⟩) (dstOk.spec hd)⟩, h.2 e⟩
      · exact ⟨_, ⟨_, _, _, _, hr.put (d := .tup []) (v := undef) (by simp only [RepV, RepVs, undef]; exact ⟨[], rfl, rfl⟩) (dstOk.spec hd)⟩, h⟩
      · exact h.elim
    · exact h.elim
theorem AT_mono {o : Oper} (hB : BOK E B) (hL : Live B s) (hd : dstOk B.N o = true) {K K' : St → Prop} (hK : ∀ s', Live B s' → K s' → K' s') (h : AT E ops o K s) : AT E ops o K' s := by
  have self : AgreeT E ops o s s.e := ⟨fun z _ => by cases z <;> rfl, fun _ _ _ _ _ => rfl⟩
  rcases AT_det h with ⟨d, h1, nx, h2, h3, h4⟩ | ⟨p, h1, h2, h3⟩
  · refine h4 s.e K' self (hK _ ?_ h3)
    obtain ⟨s', hL', e⟩ := AT_live hB hL hd (h4 s.e (fun s' => s' = (⟨s.e, h1, nx⟩ : St).put o.dst d) self rfl)
    exact e ▸ hL'
  · refine h3 s.e K' self fun b hb => hK _ ?_ (h2 b hb)
    obtain ⟨φ, S, a, w, hr⟩ := hL
    exact ⟨_, _, _, _, hr.put (d := .bool b) (v := .bool b) (by simp [RepV, Rep0]) (dstOk.spec hd)⟩
end

end Go.Proofs.YtpobbfhdkbnpmaaDoor.Lv
