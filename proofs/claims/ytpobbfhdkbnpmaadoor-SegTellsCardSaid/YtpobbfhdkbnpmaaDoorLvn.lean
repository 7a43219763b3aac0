/- The abstract machine: what an operation looks at. -/
import Derived.Test.YtpobbfhdkbnpmaaDoorLvm
set_option linter.unusedVariables false
set_option linter.unusedSimpArgs false
namespace Go.Proofs.YtpobbfhdkbnpmaaDoor.Lv
open Go Go.RowKit

mutual
/-- The own blocks that it leads to. -/
def blks : D → List Nat
  | .sl b _ _ _ | .ad b _ | .el b _ _ _ | .vs b _ _ _ => [b]
  | .agg cs | .fn _ cs | .tup cs => blkss cs
  | _ => []
def blkss : List D → List Nat
  | [] => []
  | d :: ds => blks d ++ blkss ds
end
def shape : Blk → Blk
  | .var ag sz d => .var ag sz .unk
  | .row fz ver ag sz n f => .row false ver ag sz 0 fun _ => .unk
def nofz : Blk → Blk
  | .var ag sz d => .var ag sz d
  | .row fz ver ag sz n f => .row false ver ag sz 0 f
def SameS (h h' : Hp) (b : Nat) : Prop := (lookB h b).map shape = (lookB h' b).map shape
def Same (h h' : Hp) (b : Nat) : Prop := (lookB h b).map nofz = (lookB h' b).map nofz

section
variable {h h' : Hp} {b : Nat}
theorem SameS.cases (e : SameS h h' b) : (lookB h b = none ∧ lookB h' b = none) ∨ (∃ ag sz d d', lookB h b = some (.var ag sz d) ∧ lookB h' b = some (.var ag sz d')) ∨
    (∃ fz fz' ver ag sz n n' f f', lookB h b = some (.row fz ver ag sz n f) ∧ lookB h' b = some (.row fz' ver ag sz n' f')) := by
  unfold SameS at e
  cases h1 : lookB h b with
  | none => cases h2 : lookB h' b with
    | none => exact .inl ⟨rfl, rfl⟩
    | some y => rw [h1, h2] at e; cases e
  | some x => cases h2 : lookB h' b with
    | none => rw [h1, h2] at e; cases e
    | some y =>
      rw [h1, h2] at e
      cases x <;> cases y <;> simp only [Option.map_some, shape, Option.some.injEq, Blk.var.injEq, Blk.row.injEq, reduceCtorEq, true_and, and_true] at e
      · obtain ⟨rfl, rfl⟩ := e
        exact .inr (.inl ⟨_, _, _, _, rfl, rfl⟩)
      · obtain ⟨rfl, rfl, rfl⟩ := e
        exact .inr (.inr ⟨_, _, _, _, _, _, _, _, _, rfl, rfl⟩)
theorem Same.cases (e : Same h h' b) : (lookB h b = none ∧ lookB h' b = none) ∨ (∃ ag sz d, lookB h b = some (.var ag sz d) ∧ lookB h' b = some (.var ag sz d)) ∨
    (∃ fz fz' ver ag sz n n' f, lookB h b = some (.row fz ver ag sz n f) ∧ lookB h' b = some (.row fz' ver ag sz n' f)) := by
  unfold Same at e
  cases h1 : lookB h b with
  | none => cases h2 : lookB h' b with
    | none => exact .inl ⟨rfl, rfl⟩
    | some y => rw [h1, h2] at e; cases e
  | some x => cases h2 : lookB h' b with
    | none => rw [h1, h2] at e; cases e
    | some y =>
      rw [h1, h2] at e
      cases x <;> cases y <;> simp only [Option.map_some, nofz, Option.some.injEq, Blk.var.injEq, Blk.row.injEq, reduceCtorEq, true_and, and_true] at e
      · obtain ⟨rfl, rfl, rfl⟩ := e
        exact .inr (.inl ⟨_, _, _, rfl, rfl⟩)
      · obtain ⟨rfl, rfl, rfl, rfl⟩ := e
        exact .inr (.inr ⟨_, _, _, _, _, _, _, _, rfl, rfl⟩)
theorem Same.toS (e : Same h h' b) : SameS h h' b := by
  rcases e.cases with ⟨h1, h2⟩ | ⟨ag, sz, d, h1, h2⟩ | ⟨fz, fz', ver, ag, sz, n, n', f, h1, h2⟩ <;> simp [SameS, h1, h2, shape]
theorem Same.of_eq (e : lookB h b = lookB h' b) : Same h h' b := by unfold Same; rw [e]
theorem SameS.symm (e : SameS h h' b) : SameS h' h b := Eq.symm e
theorem Same.symm (e : Same h h' b) : Same h' h b := Eq.symm e

theorem cur_congr (e : SameS h h' b) (v : Nat) : cur h b v = cur h' b v := by
  rcases e.cases with ⟨h1, h2⟩ | ⟨ag, sz, d, d', h1, h2⟩ | ⟨fz, fz', ver, ag, sz, n, n', f, f', h1, h2⟩ <;> simp [cur, h1, h2]
theorem ldd_congr {ag : Bool} {n : Nat} {d : D} (e : ∀ b ∈ blks d, Same h h' b) : ldd h ag n d = ldd h' ag n d := by
  cases d <;> try rfl
  case ad b off =>
    rcases (e b (by simp [blks])).cases with ⟨h1, h2⟩ | ⟨ag, sz, d, h1, h2⟩ | ⟨fz, fz', ver, ag, sz, n, n', f, h1, h2⟩ <;> simp [ldd, h1, h2]
  case el b ver i fo =>
    rcases (e b (by simp [blks])).cases with ⟨h1, h2⟩ | ⟨ag, sz, d, h1, h2⟩ | ⟨fz, fz', ver, ag, sz, n, n', f, h1, h2⟩ <;> simp [ldd, h1, h2]
theorem bstr_congr {d : D} (e : ∀ b ∈ blks d, Same h h' b) : bstr h d = bstr h' d := by
  cases d <;> try rfl
  case sl b ver off n =>
    rcases (e b (by simp [blks])).cases with ⟨h1, h2⟩ | ⟨ag, sz, d, h1, h2⟩ | ⟨fz, fz', ver, ag, sz, n, n', f, h1, h2⟩ <;> simp [bstr, h1, h2]
theorem lenD_congr {k : TK} {d : D} (e : ∀ b ∈ blks d, SameS h h' b) : lenD h k d = lenD h' k d := by
  cases k <;> cases d <;> try rfl
  rename_i b ver off n
  rcases (e b (by simp [blks])).cases with ⟨h1, h2⟩ | ⟨ag, sz, d, d', h1, h2⟩ | ⟨fz, fz', ver, ag, sz, n, n', f, f', h1, h2⟩ <;> simp [lenD, h1, h2]
theorem one_congr {d : D} (e : ∀ b ∈ blks d, SameS h h' b) : one h d = one h' d := by
  cases d <;> try rfl
  case sl b ver off n => exact cur_congr (e b (by simp [blks])) _
  case el b ver i fo => exact cur_congr (e b (by simp [blks])) _
theorem blkss_mem : ∀ {ds : List D} {d : D}, d ∈ ds → ∀ b ∈ blks d, b ∈ blkss ds
  | x :: ds, d, hd, b, hb => by
    simp only [blkss, List.mem_append]
    rcases List.mem_cons.1 hd with rfl | hd
    · exact .inl hb
    · exact .inr (blkss_mem hd b hb)
theorem all_one_congr {ds : List D} (e : ∀ b ∈ blkss ds, SameS h h' b) : ds.all (one h) = ds.all (one h') := by
  induction ds with
  | nil => rfl
  | cons d ds ih =>
    simp only [blkss, List.mem_append] at e
    simp only [List.all_cons, one_congr fun b hb => e b (.inl hb), ih fun b hb => e b (.inr hb)]
theorem cellsOf_blks {ag : Bool} {d : D} {cs : List D} (hc : cellsOf ag d = some cs) : ∀ b ∈ blkss cs, b ∈ blks d := by
  unfold cellsOf at hc
  cases ag with
  | true =>
    simp only [if_true] at hc
    cases d <;> simp only [asAgg, Option.some.injEq, reduceCtorEq] at hc
    subst hc
    intro b hb
    simpa [blks] using hb
  | false =>
    simp only [Bool.false_eq_true, if_false, Option.some.injEq] at hc
    subst hc
    intro b hb
    simpa [blkss] using hb
theorem chk_congr {ag : Bool} {sz : Nat} {d : D} (e : ∀ b ∈ blks d, SameS h h' b) : chk h ag sz d = chk h' ag sz d := by
  unfold chk
  cases hc : cellsOf ag d with
  | none => rfl
  | some cs => simp only [all_one_congr fun b hb => e b (cellsOf_blks hc b hb)]
theorem fits_congr {E : Ctx} : ∀ {ps : List (Nat × D)} {pl : List (Nat × Nat)}, (∀ p ∈ ps, ∀ b ∈ blks p.2, SameS h h' b) → fits E h ps pl = fits E h' ps pl
  | [], _, _ => rfl
  | (i, d) :: r, pl, e => by
    simp only [fits]
    rw [fits_congr (ps := r) fun p hp => e p (List.mem_cons_of_mem _ hp)]
    cases pl[i]? with
    | none => rfl
    | some q =>
      obtain ⟨off, t⟩ := q
      simp only
      cases hc : cellsOf (E.tt t).ag d with
      | none => rfl
      | some cs => simp only [all_one_congr fun b hb => e (i, d) (by simp) b (cellsOf_blks hc b hb)]
end

def isLoad : Op → Bool
  | .load .. | .convert .. => true
  | _ => false

/-- What only reckons or reads, and loads nothing, looks at no more than the shapes. -/
theorem pv_congrS {E : Ctx} {s s' : St} {op : Op} (hl : isLoad op = false) (he : ∀ x ∈ op.operands, ev E s x = ev E s' x) (hh : ∀ x ∈ op.operands, ∀ b ∈ blks (ev E s x), SameS s.h s'.h b) : pv E s op = pv E s' op := by
  cases op <;> try rfl
  case load => cases hl
  case convert => cases hl
  case move x => simp only [pv, he x (by simp [Op.operands])]
  case assign x => simp only [pv, he x (by simp [Op.operands])]
  case pick c a b => simp only [pv, he c (by simp [Op.operands]), he a (by simp [Op.operands]), he b (by simp [Op.operands])]
  case field t x i => simp only [pv, he x (by simp [Op.operands])]
  case binOp op t x y yt => simp only [pv, he x (by simp [Op.operands]), he y (by simp [Op.operands])]
  case unOp op t x => simp only [pv, he x (by simp [Op.operands])]
  case index t x i => simp only [pv, he x (by simp [Op.operands]), he i (by simp [Op.operands])]
  case extract x i => simp only [pv, he x (by simp [Op.operands])]
  case makeFunc fn first cap =>
    obtain ⟨first⟩ := first
    obtain ⟨cap⟩ := cap
    have : cap.map (ev E s) = cap.map (ev E s') := List.map_congr_left fun x hx => he x (by simp [Op.operands, hx])
    cases fn <;> cases first <;> simp only [pv, this]
  case fieldAddr t x i =>
    have h1 := hh x (by simp [Op.operands])
    simp only [pv, ← he x (by simp [Op.operands])]
    cases hx : ev E s x <;> simp only
    case el b v j fo => simp only [cur_congr (h1 b (by simp [hx, blks]))]
  case nilCheck x =>
    have h1 := hh x (by simp [Op.operands])
    simp only [pv, ← he x (by simp [Op.operands])]
    cases hx : ev E s x <;> simp only
    case el b v j fo => simp only [cur_congr (h1 b (by simp [hx, blks]))]
  case slice t x lo hi mx =>
    have h1 := hh x (by simp [Op.operands])
    have hlo : lo.map (ev E s) = lo.map (ev E s') := by cases lo with
      | none => rfl
      | some y => simp only [Option.map_some, he y (by simp [Op.operands])]
    have hhi : hi.map (ev E s) = hi.map (ev E s') := by cases hi with
      | none => rfl
      | some y => simp only [Option.map_some, he y (by simp [Op.operands])]
    cases mx with
    | some _ => rfl
    | none =>
      simp only [pv, ← he x (by simp [Op.operands]), hlo, hhi]
      cases hx : ev E s x <;> try rfl
      case sl b v off n =>
        rcases (h1 b (by simp [hx, blks])).cases with ⟨h2, h3⟩ | ⟨ag, sz, d, d', h2, h3⟩ | ⟨fz, fz', ver, ag, sz, n, n', f, f', h2, h3⟩ <;> simp only [h2, h3]
  case indexAddr t x i =>
    have h1 := hh x (by simp [Op.operands])
    simp only [pv, ← he x (by simp [Op.operands]), ← he i (by simp [Op.operands])]
    generalize ev E s i = y
    generalize (E.tt t).k = k
    cases k <;> try rfl
    case slc e =>
      cases hx : ev E s x <;> (try rfl) <;> cases y <;> try rfl
      case sl.int b v off n k i' =>
        rcases (h1 b (by simp [hx, blks])).cases with ⟨h2, h3⟩ | ⟨ag, sz, d, d', h2, h3⟩ | ⟨fz, fz', ver, ag, sz, n, n', f, f', h2, h3⟩ <;> simp only [h2, h3]
    case arr n e =>
      cases hx : ev E s x <;> (try rfl) <;> cases y <;> try rfl
      case el.int b v j off k i' =>
        simp only [cur_congr (h1 b (by simp [hx, blks]))]
  case build t ps =>
    obtain ⟨ps⟩ := ps
    have h1 : (ps.map fun p => (p.1, ev E s p.2)) = ps.map fun p => (p.1, ev E s' p.2) := List.map_congr_left fun p hp => by
      rw [he p.2 (by simp only [Op.operands, List.mem_toArray, List.mem_map]; exact ⟨p, hp, rfl⟩)]
    have h2 : ∀ p ∈ (ps.map fun p => (p.1, ev E s p.2)), ∀ b ∈ blks p.2, SameS s.h s'.h b := fun p hp b hb => by
      obtain ⟨q, hq, rfl⟩ := List.mem_map.1 hp
      exact hh q.2 (by simp only [Op.operands, List.mem_toArray, List.mem_map]; exact ⟨q, hq, rfl⟩) b hb
    rw [h1] at h2
    simp only [pv, h1, fits_congr h2]
  case call c =>
    obtain ⟨callee, ⟨args⟩, ⟨tys⟩⟩ := c
    cases callee with
    | value f => rfl
    | invoke r n => rfl
    | builtin bi =>
      cases bi <;> try rfl
      case len =>
        match args, tys with
        | [x], [t] =>
          have h1 := hh x (by simp [Op.operands, Call.operands])
          simp only [pv, ← he x (by simp [Op.operands, Call.operands]), lenD_congr h1]
        | [], _ => rfl
        | _ :: _ :: _, _ => rfl
        | [_], [] => rfl
        | [_], _ :: _ :: _ => rfl
      case max =>
        match args with
        | [x, y] => simp only [pv, he x (by simp [Op.operands, Call.operands]), he y (by simp [Op.operands, Call.operands])]
        | [] => rfl
        | [_] => rfl
        | _ :: _ :: _ :: _ => rfl
      case min =>
        match args with
        | [x, y] => simp only [pv, he x (by simp [Op.operands, Call.operands]), he y (by simp [Op.operands, Call.operands])]
        | [] => rfl
        | [_] => rfl
        | _ :: _ :: _ :: _ => rfl
theorem pv_congr {E : Ctx} {s s' : St} {op : Op} (he : ∀ x ∈ op.operands, ev E s x = ev E s' x) (hh : ∀ x ∈ op.operands, ∀ b ∈ blks (ev E s x), Same s.h s'.h b) : pv E s op = pv E s' op := by
  cases hl : isLoad op with
  | false => exact pv_congrS hl he fun x hx b hb => (hh x hx b hb).toS
  | true =>
    cases op <;> simp only [isLoad, Bool.false_eq_true] at hl
    case load t x =>
      have h1 := hh x (by simp [Op.operands])
      simp only [pv, ← he x (by simp [Op.operands]), ldd_congr h1]
    case convert src t x =>
      have h1 := hh x (by simp [Op.operands])
      simp only [pv, ← he x (by simp [Op.operands])]
      have h2 := bstr_congr h1
      generalize ev E s x = d at h2
      unfold conv
      generalize (E.tt t).k = k
      cases k <;> cases d <;> simp only [h2]

end Go.Proofs.YtpobbfhdkbnpmaaDoor.Lv
