/- The abstract machine: a function's contract out of its code. -/
import Derived.Test.YtpobbfhdkbnpmaaDoorLvr
import Derived.RangeFuncLeaves
set_option linter.unusedVariables false
set_option linter.unusedSimpArgs false
namespace Go.Proofs.YtpobbfhdkbnpmaaDoor.Lv
open Go Go.RowKit

def resD (E : Ctx) (s : St) : List ResultVar → Option (List D)
  | [] => some []
  | .tmp t :: r => (resD E s r).map fun ds => s.e t :: ds
  | .cell t ty :: r => match (E.tt ty).k with
    | .bad => none
    | _ => (ldd s.h (E.tt ty).ag (E.tt ty).sz (s.e t)).bind fun d => (resD E s r).map fun ds => d :: ds
def one' : List D → D
  | [d] => d
  | ds => .tup ds
def kp (h : Hp) (b : Nat) : Option Nat := if (lookB h b).isSome then some b else none
/-- Whatever is so is so. -/
def Le (d d' : D) : Prop := ∀ S w v, Rep0 S w d v → Rep0 S w d' v
def LeV (d d' : D) : Prop := ∀ H φ S w v, RepV H φ S w d v → RepV H φ S w d' v
def LesV (ds ds' : List D) : Prop := ∀ H φ S w vs, RepVs H φ S w ds vs → RepVs H φ S w ds' vs
def BLe : Option Blk → Blk → Prop
  | some (.var ag sz d), .var ag' sz' d' => ag = ag' ∧ sz = sz' ∧ LeV d d'
  | some (.row fz ver ag sz n f), .row fz' ver' ag' sz' n' f' => fz = fz' ∧ ver = ver' ∧ ag = ag' ∧ sz = sz' ∧ n = n' ∧ ∀ i, i < n → Le (f i) (f' i)
  | _, _ => False
def HLe (ρ : Nat → Option Nat) (H : Hp) : Hp → Prop
  | [] => True
  | (i, y) :: r => BLe ((lookB H i).map (impB ρ H)) y ∧ HLe ρ H r
def retQ (E : Ctx) (rl : List ResultVar) (d : D) (h' : Hp) : Exit → St → Prop
  | .normal, s | .ret, s => ork ((resD E s rl).map fun ds => imp (kp h') s.h (one' ds)) (fun d' => LeV d' d) False ∧ HLe (kp h') s.h h'
  | _, _ => False
def St.init (args : List D) (h : Hp) : St := ⟨fun t => args.getD t .unk, h, mx h⟩

theorem Le.refl (d : D) : Le d d := fun _ _ _ h => h
theorem Le.of_eq {d d' : D} (e : d = d') : Le d d' := e ▸ Le.refl d
theorem LeV.refl (d : D) : LeV d d := fun _ _ _ _ _ h => h
theorem LeV.of_eq {d d' : D} (e : d = d') : LeV d d' := e ▸ LeV.refl d
theorem LeV.trans {a b c : D} (h : LeV a b) (h' : LeV b c) : LeV a c := fun H φ S w v x => h' H φ S w v (h H φ S w v x)
theorem LeV.unk (d : D) : LeV d .unk := fun _ _ _ _ _ _ => by simp [RepV, Rep0]
theorem Le.ro {ag : Bool} {sz n : Nat} {f g : Nat → D} (h : ∀ i, i < n → Le (f i) (g i)) : Le (.ro ag sz n f) (.ro ag sz n g) := fun S w v hv => by
  simp only [Rep0] at hv ⊢
  obtain ⟨a, cap, e, h1, h2, h3⟩ := hv
  refine ⟨a, cap, e, h1, h2, fun hp => ?_⟩
  obtain ⟨b, o, h4, h5, h6⟩ := h3 hp
  refine ⟨b, o, h4, h5, fun i hi => ?_⟩
  obtain ⟨x, vs, h7, h8, h9, h10⟩ := h6 i hi
  exact ⟨x, vs, h7, h8, h9, h i hi S w x h10⟩
theorem LeV.ro {ag : Bool} {sz n m : Nat} {f g : Nat → D} (e : n = m) (h : ∀ i, i < n → Le (f i) (g i)) : LeV (.ro ag sz n f) (.ro ag sz m g) := fun H φ S w v hv => by
  subst e
  simp only [RepV] at hv ⊢
  exact Le.ro h S w v hv
theorem LeV.nils {ag : Bool} {sz : Nat} {f : Nat → D} : LeV .nils (.ro ag sz 0 f) := fun H φ S w v hv => by
  simp only [RepV, Rep0] at hv ⊢
  exact ⟨none, 0, hv, by omega, by omega, fun h => by omega⟩
theorem LesV.nil : LesV [] [] := fun _ _ _ _ _ h => h
theorem LesV.cons {d d' : D} {ds ds' : List D} (h : LeV d d') (hs : LesV ds ds') : LesV (d :: ds) (d' :: ds') := fun H φ S w vs hv => by
  simp only [RepVs] at hv ⊢
  obtain ⟨v, vs', e, h1, h2⟩ := hv
  exact ⟨v, vs', e, h H φ S w v h1, hs H φ S w vs' h2⟩
theorem LesV.refl (ds : List D) : LesV ds ds := fun _ _ _ _ _ h => h
theorem LeV.agg {ds ds' : List D} (h : LesV ds ds') : LeV (.agg ds) (.agg ds') := fun H φ S w v hv => by
  simp only [RepV] at hv ⊢
  obtain ⟨vs, e, h1⟩ := hv
  exact ⟨vs, e, h H φ S w vs h1⟩
theorem LeV.tup {ds ds' : List D} (h : LesV ds ds') : LeV (.tup ds) (.tup ds') := fun H φ S w v hv => by
  simp only [RepV] at hv ⊢
  obtain ⟨vs, e, h1⟩ := hv
  exact ⟨vs, e, h H φ S w vs h1⟩
theorem Le.ofV {d d' : D} (hc : cl d' = true) (h : LeV d d') : Le d d' := fun S w v hv => cl_rep (H := []) (φ := fun _ => none) d' v (h [] (fun _ => none) S w v (Rep0.toV _ _ hv)) hc
/-- A contract serves arguments of which more is known. -/
theorem CG.args {E : Ctx} {f : FuncId} {args args' : List D} {h h' : Hp} {d : D} (hc : CG E f args' h d h') (hl : LesV args args') : CG E f args h d h' :=
  ⟨hc.1, fun S w vs φ h1 h2 h3 h4 h5 => hc.2 S w vs φ h1 h2 h3 h4 (hl _ _ _ _ _ h5)⟩

def resOf (tmps : Array Value) : ResultVar → Sem Value
  | .tmp t => pure (tmps.getD t undef)
  | .cell a t => do loadVar t (← asAddr (tmps.getD a undef))
theorem results_eq (fn : Func) (tmps : Array Value) : results fn tmps = (do
    let vs ← fn.results.mapM (resOf tmps)
    pure (if h : vs.size = 1 then vs[0] else .tuple vs)) := by
  unfold results
  congr 1
section
variable {E : Ctx} {B : Base} {s : St} {φ : Ph} {S : Nat → Prop} {a : Act} {w : World}
theorem resD_sound (hr : Rel B s φ S a w) : ∀ (rl : List ResultVar) (ds : List D), resD E s rl = some ds →
    ∃ vs, (rl.mapM (resOf a.tmps)).run E.P w = .ok vs w ∧ RepVs s.h φ S w ds vs
  | [], ds, h => by
    simp only [resD, Option.some.injEq] at h
    subst h
    exact ⟨[], rfl, rfl⟩
  | .tmp t :: r, ds, h => by
    simp only [resD] at h
    obtain ⟨ds', h1, rfl⟩ := Option.map_eq_some_iff.1 h
    obtain ⟨vs, h2, h3⟩ := resD_sound hr r ds' h1
    refine ⟨a.tmps.getD t undef :: vs, ?_, ?_⟩
    · simp only [List.mapM_cons, resOf, pure_bind, Sem.run_bind, h2, Result.andThen_ok, Sem.run_pure]
    · exact ⟨_, _, rfl, hr.env t, h3⟩
  | .cell t ty :: r, ds, h => by
    simp only [resD] at h
    split at h
    · cases h
    · rename_i hk
      obtain ⟨d, h0, h⟩ := Option.bind_eq_some_iff.1 h
      obtain ⟨ds', h1, rfl⟩ := Option.map_eq_some_iff.1 h
      obtain ⟨vs, h2, h3⟩ := resD_sound hr r ds' h1
      obtain ⟨x, h4, h5⟩ := ldd_sound (E := E) hr.hp (t := ty) (fun e => hk e) (hr.env t) h0
      refine ⟨x :: vs, ?_, ?_⟩
      · have h6 : (do loadVar ty (← asAddr (a.tmps.getD t undef)) : Sem Value).run E.P w = .ok x w := by
          revert h4
          generalize a.tmps.getD t undef = v
          intro h4
          unfold Instr.loadAt at h4
          cases v
          case pointer o =>
            cases o with
            | some q => simpa [Instr.sureAddr, asAddr] using h4
            | none => simp [Instr.sureAddr, stuck] at h4
          all_goals simp [Instr.sureAddr, stuck] at h4
        rw [List.mapM_cons]
        show (resOf a.tmps (.cell t ty) >>= fun b => _ : Sem (List Value)).run E.P w = _
        rw [Sem.run_bind, show (resOf a.tmps (.cell t ty)).run E.P w = .ok x w from h6]
        simp only [Result.andThen_ok, Sem.run_bind, h2, Sem.run_pure]
      · exact ⟨_, _, rfl, h5, h3⟩
theorem Rep0s.length : ∀ {ds : List D} {vs : List Value}, Rep0s S w ds vs → vs.length = ds.length
  | [], vs, h => by simp only [Rep0s] at h; subst h; rfl
  | d :: ds, vs, h => by
    simp only [Rep0s] at h
    obtain ⟨v, vs', rfl, _, h2⟩ := h
    simp [h2.length]
theorem Rep0s.getD : ∀ {ds : List D} {vs : List Value}, Rep0s S w ds vs → ∀ (rest : List Value) (t : Nat), Rep0 S w (ds.getD t .unk) ((vs ++ rest).getD t undef)
  | [], vs, h, rest, t => by simp [Rep0]
  | d :: ds, vs, h, rest, t => by
    simp only [Rep0s] at h
    obtain ⟨v, vs', rfl, h1, h2⟩ := h
    cases t with
    | zero => simpa using h1
    | succ t => simpa using h2.getD rest t

theorem RepVs.getD {H : Hp} : ∀ {ds : List D} {vs : List Value}, RepVs H φ S w ds vs → ∀ (rest : List Value) (t : Nat), RepV H φ S w (ds.getD t .unk) ((vs ++ rest).getD t undef)
  | [], vs, h, rest, t => by simp [RepV, Rep0]
  | d :: ds, vs, h, rest, t => by
    simp only [RepVs] at h
    obtain ⟨v, vs', rfl, h1, h2⟩ := h
    cases t with
    | zero => simpa using h1
    | succ t => simpa using h2.getD rest t

/-- What is kept of the blocks. -/
def kH (ρ : Nat → Option Nat) (H : Hp) : Hp → Hp
  | [] => []
  | (i, _) :: r => match lookB H i with
    | some x => (i, impB ρ H x) :: kH ρ H r
    | none => kH ρ H r
theorem HLe.look {ρ : Nat → Option Nat} {H : Hp} : ∀ {h' : Hp}, HLe ρ H h' → ∀ i y, lookB h' i = some y → ∃ x, lookB H i = some x ∧ BLe (some (impB ρ H x)) y
  | (j, z) :: r, h, i, y, hl => by
    simp only [HLe] at h
    simp only [lookB] at hl
    split at hl
    · rename_i e
      subst e
      cases hl
      cases hx : lookB H i with
      | none => rw [hx] at h; cases h.1
      | some x => rw [hx] at h; exact ⟨x, rfl, h.1⟩
    · exact HLe.look h.2 i y hl
theorem kH_look {ρ : Nat → Option Nat} {H : Hp} : ∀ {h' : Hp}, HLe ρ H h' → ∀ i, lookB (kH ρ H h') i = if (lookB h' i).isSome then (lookB H i).map (impB ρ H) else none
  | [], _, i => by simp [kH, lookB]
  | (j, z) :: r, h, i => by
    have h' := h
    simp only [HLe] at h
    cases hx : lookB H j with
    | none => rw [hx] at h; cases h.1
    | some x =>
      simp only [kH, hx, lookB]
      by_cases e : i = j
      · subst e; simp [hx]
      · simp only [if_neg e]
        exact kH_look h.2 i

theorem HLe.mem {h' : Hp} : ∀ b, (lookB h' b).isSome = true → ∃ p ∈ h', p.1 = b := by
  induction h' with
  | nil => intro b hb; cases hb
  | cons p r ih =>
    intro b hb
    obtain ⟨j, z⟩ := p
    simp only [lookB] at hb
    split at hb
    · rename_i e; exact ⟨(j, z), by simp, e.symm⟩
    · obtain ⟨q, hq, e⟩ := ih b hb
      exact ⟨q, by simp [hq], e⟩
/-- Slots that are told. -/
def EnvLe (ρ : Nat → Option Nat) (H : Hp) (e : Nat → D) : List (Nat × D) → Prop
  | [] => True
  | (t, d) :: r => LeV (imp ρ H (e t)) d ∧ EnvLe ρ H e r
theorem EnvLe.look {ρ : Nat → Option Nat} {H : Hp} {e : Nat → D} : ∀ {L : List (Nat × D)}, EnvLe ρ H e L → ∀ t, LeV (imp ρ H (e t)) (look .unk L t)
  | [], _, t => LeV.unk _
  | (t', d) :: r, h, t => by
    simp only [Lv.look]
    split
    · rename_i e; subst e; exact h.1
    · exact EnvLe.look h.2 t
/-- Only these slots, only these blocks are told from here on. -/
theorem Wk.gen {n : Nat} {e : Nat → D} {h : Hp} {nx : Nat} (L : List (Nat × D)) (h' : Hp) (nx' : Nat) (hn : n ≤ nx') (hm : mx h' ≤ nx') (hL : EnvLe (kp h') h e L) (hH : HLe (kp h') h h') : Wk n ⟨e, h, nx⟩ ⟨Lv.look .unk L, h', nx'⟩ := by
  intro B φ S a w hnB hr
  let fs := L.flatMap (fun p => refs (kp h') (e p.1)) ++ h'.flatMap fun p => refB (kp h') (lookB h p.1)
  let h2' := kH (kp h') h h'
  have hlook : ∀ i, lookB h2' i = if (lookB h' i).isSome then (lookB h i).map (impB (kp h') h) else none := kH_look hH
  have hkp : ∀ b i, kp h' b = some i → i = b ∧ (lookB h' b).isSome = true := fun b i e => by
    unfold kp at e
    split at e
    · rename_i hs; exact ⟨(Option.some.inj e).symm, hs⟩
    · cases e
  have hρ : ∀ b i, kp h' b = some i → ∀ x, lookB h b = some x → lookB h2' i = some (impB (kp h') h x) ∧ φ i = φ b := fun b i e x hx => by
    obtain ⟨rfl, hs⟩ := hkp b i e
    exact ⟨by rw [hlook, if_pos hs, hx]; rfl, rfl⟩
  have hback : ∀ i y, lookB h2' i = some y → ∃ b x, kp h' b = some i ∧ lookB h b = some x ∧ y = impB (kp h') h x := fun i y e => by
    rw [hlook] at e
    split at e
    · rename_i hs
      obtain ⟨x, hx, rfl⟩ := Option.map_eq_some_iff.1 e
      exact ⟨i, x, by unfold kp; rw [if_pos hs], hx, rfl⟩
    · cases e
  have hfs : ∀ b, b ∈ fs → kp h' b = none := fun b hb => by
    rcases List.mem_append.1 hb with hb | hb
    · obtain ⟨t, _, hb⟩ := List.mem_flatMap.1 hb
      exact (refs_none _).1 _ _ hb
    · obtain ⟨p, hp, hb⟩ := List.mem_flatMap.1 hb
      unfold refB at hb
      split at hb
      · exact (refs_none _).1 _ _ hb
      · cases hb
  have hrf : ∀ b i ag sz d, kp h' b = some i → lookB h b = some (.var ag sz d) → ∀ b', b' ∈ refs (kp h') d → b' ∈ fs := fun b i ag sz d e hl b' hb' => by
    obtain ⟨rfl, hs⟩ := hkp b i e
    obtain ⟨p, hp, e⟩ := HLe.mem i hs
    exact List.mem_append_right _ (List.mem_flatMap.2 ⟨p, hp, by rw [e]; simp [refB, hl, hb']⟩)
  have hhp2 : HpAt h2' φ (Fz h φ S fs) w := imp_hp hr.hp hρ hback hfs hrf
  have hz := hr.frz fs
  have hB2 : ∀ i y, lookB h' i = some y → ∃ x, lookB h i = some x ∧ lookB h2' i = some (impB (kp h') h x) ∧ BLe (some (impB (kp h') h x)) y := fun i y e => by
    obtain ⟨x, hx, hle⟩ := hH.look i y e
    exact ⟨x, hx, by rw [hlook, e, hx]; rfl, hle⟩
  have hB3 : ∀ i x, lookB h2' i = some x → ∃ y, lookB h' i = some y ∧ BLe (some x) y := fun i x e => by
    have e' := e
    rw [hlook] at e'
    split at e'
    · rename_i hs
      obtain ⟨y, hy⟩ := Option.isSome_iff_exists.1 hs
      obtain ⟨x', _, e2, hle⟩ := hB2 i y hy
      rw [e] at e2
      cases e2
      exact ⟨y, hy, hle⟩
    · cases e'
  have hx2 : HpExt h2' φ h' φ := fun b => ⟨fun ag sz d e => by
      obtain ⟨y, hy, hle⟩ := hB3 b _ e
      cases y with
      | var ag' sz' d' => obtain ⟨rfl, rfl, _⟩ := hle; exact ⟨⟨_, hy⟩, rfl⟩
      | row => exact hle.elim,
    fun fz ver ag sz m f e => by
      obtain ⟨y, hy, hle⟩ := hB3 b _ e
      cases y with
      | var => exact hle.elim
      | row fz' ver' ag' sz' m' f' => obtain ⟨rfl, rfl, rfl, rfl, rfl, _⟩ := hle; exact ⟨_, _, _, _, hy, Nat.le_refl _, fun _ => ⟨Nat.le_refl _, rfl⟩⟩⟩
  have hk : Kept (Fz h φ S fs) w w := fun _ _ => rfl
  refine ⟨φ, Fz h φ S fs, fun t => ?_, hr.size, ⟨fun b y e => ?_, fun b b' y y' c t t' l l' p p' => ?_⟩, fun b y e => Nat.lt_of_lt_of_le (mx_lt e) hm, hz.slt, fun b y c t e hp => ?_, fun b y c t e hp => ?_, hz.s0, hz.s1, hr.below, fun b hb => ?_, Nat.le_trans hnB hn, hr.def0.move fun D hD _ hS ho => ⟨rfl, fun h => ?_, fun b y c t l p => ?_⟩⟩
  · by_cases ht : ∃ p ∈ L, p.1 = t
    · obtain ⟨p, hp, rfl⟩ := ht
      have := imp_rep (fs := fs) hr.hp hρ (e p.1) _ (hr.env p.1) fun b hb => List.mem_append_left _ (List.mem_flatMap.2 ⟨p, hp, hb⟩)
      exact hL.look p.1 _ _ _ _ _ (RepV.mono hx2 hk (fun _ h => h) _ _ this)
    · have : ∀ L : List (Nat × D), (¬ ∃ p ∈ L, p.1 = t) → Lv.look .unk L t = .unk := by
        intro L
        induction L with
        | nil => intro _; rfl
        | cons q r ih =>
          intro hn
          obtain ⟨t', d⟩ := q
          simp only [Lv.look]
          rw [if_neg fun e => hn ⟨(t', d), by simp, e.symm⟩]
          exact ih fun ⟨p, hp, e⟩ => hn ⟨p, by simp [hp], e⟩
      show RepV h' φ (Fz h φ S fs) w (Lv.look .unk L t) _
      rw [this L ht]
      simp [RepV, Rep0]
  · obtain ⟨x, hx, e2, hle⟩ := hB2 b y e
    have hblk := hhp2.blk b _ e2
    revert hblk hle
    generalize impB (kp h') h x = z
    intro hle hblk
    cases z with
    | var ag sz d0 =>
      cases y with
      | row => exact hle.elim
      | var ag' sz' d' =>
        obtain ⟨rfl, rfl, hle⟩ := hle
        obtain ⟨c, t, g1, g2, x, vs, e, lo, hi, g3, g4, g5, g6, g7⟩ := hblk
        exact ⟨c, t, g1, g2, x, vs, e, lo, hi, g3, g4, g5, g6, hle _ _ _ _ _ (RepV.mono hx2 hk (fun _ h => h) _ _ g7)⟩
    | row fz ver ag sz n f =>
      cases y with
      | var => exact hle.elim
      | row fz' ver' ag' sz' n' f' =>
        obtain ⟨rfl, rfl, rfl, rfl, rfl, hle⟩ := hle
        refine ⟨hblk.1, fun c tot e => ?_⟩
        obtain ⟨g1, g2, g3, g4, vs, ty, lo, hi, g5, g6, g7, g8⟩ := hblk.2 c tot e
        refine ⟨g1, g2, g3, g4, vs, ty, lo, hi, g5, g6, g7, fun i hi => ?_⟩
        obtain ⟨x, k1, k2⟩ := g8 i hi
        exact ⟨x, k1, hle i hi _ _ _ k2⟩
  · obtain ⟨x, _, e2, _⟩ := hB2 b y l
    obtain ⟨x', _, e2', _⟩ := hB2 b' y' l'
    exact hhp2.inj b b' _ _ c t t' e2 e2' p p'
  · obtain ⟨x, hx, _, _⟩ := hB2 b y e
    exact hr.plt b x c t hx hp
  · obtain ⟨x, hx, _, _⟩ := hB2 b y e
    exact hr.old b x c t hx hp
  · obtain ⟨y, hy⟩ := Option.isSome_iff_exists.1 hb
    obtain ⟨x, hx, _, hle⟩ := hB2 b y hy
    have hext := hr.ext b (by rw [hx]; rfl)
    refine ⟨fun ag sz d e => ?_, fun fz ver ag sz m f e => ?_⟩
    · obtain ⟨⟨d1, e4⟩, e5⟩ := hext.1 ag sz d e
      have e4' : lookB h b = some (.var ag sz d1) := e4
      rw [hx] at e4'
      cases e4'
      cases y with
      | row => exact hle.elim
      | var ag' sz' d' => obtain ⟨rfl, rfl, _⟩ := hle; exact ⟨⟨_, hy⟩, e5⟩
    · obtain ⟨fz2, ver2, m2, f2, e4, e5, e6⟩ := hext.2 _ _ _ _ _ _ e
      have e4' : lookB h b = _ := e4
      rw [hx] at e4'
      cases e4'
      cases y with
      | var => exact hle.elim
      | row fz' ver' ag' sz' m' f' => obtain ⟨rfl, rfl, rfl, rfl, rfl, _⟩ := hle; exact ⟨_, _, _, _, hy, e5, e6⟩
  · rcases h with h | ⟨b', hb', fz', ver', ag', sz', n', f', t', l', p'⟩
    · exact hS h
    · exact ho b' _ D t' l' p' rfl
  · obtain ⟨x, hx, _, _⟩ := hB2 b y l
    exact ho b x c t hx p

/-- A mark taken. -/
def mark (D : Nat) : Deferred := { target := .collected D, args := #[] }
theorem Rel.unmark (hn0 : B.w0.heap.size ≤ B.n0) (hr : Rel B s φ S a w) {D : Nat} {Ds : List Nat} (ha : a.defers = mark D :: Ds.map mark) : w.heap[D]? = some (.deferred (some [])) ∧ Rel B s φ S { a with defers := Ds.map mark } (w.putObj D (.deferred none)) := by
  obtain ⟨Ds', e, hn, hD⟩ := hr.def0
  have e' : Ds' = D :: Ds := by
    have hinj : ∀ l l' : List Nat, l.map mark = l'.map mark → l = l' := by
      intro l
      induction l with
      | nil => intro l' h; cases l' with
        | nil => rfl
        | cons => simp at h
      | cons x l ih => intro l' h; cases l' with
        | nil => simp at h
        | cons y l' =>
          simp only [List.map_cons, List.cons.injEq, mark, Deferred.mk.injEq, Target.collected.injEq, and_true] at h
          rw [h.1, ih l' h.2]
    exact hinj _ _ (e.symm.trans ha)
  subst e'
  obtain ⟨h1, h2, h3, h4⟩ := hD D (by simp)
  obtain ⟨hn1, hn2⟩ := List.nodup_cons.1 hn
  have hlt := (Array.getElem?_eq_some_iff.1 h1).1
  have hoth : ∀ k, k ≠ D → (w.putObj D (.deferred none)).heap[k]? = w.heap[k]? := fun k hk => World.putObj_heap_other hk
  have hsz : (w.putObj D (.deferred none)).heap.size = w.heap.size := by simp [World.putObj]
  have hk : Kept S w (w.putObj D (.deferred none)) := fun b hb => hoth b fun e => h3 (e ▸ hb)
  refine ⟨h1, fun i => RepV.mono (HpExt.refl _ _) hk (fun _ h => h) _ _ (hr.env i), hr.size, ⟨fun b x hl => BlkAt.move (HpExt.refl _ _) hk (fun _ h => h) rfl (fun c t hp => hoth c (h4 b x c t hl hp)) (fun _ _ _ h => h) (hr.hp.blk b x hl), hr.hp.inj⟩, hr.nx, fun b h => hsz ▸ hr.slt b h, fun b x c t hl hp => hsz ▸ hr.plt b x c t hl hp, hr.old, hr.s0, hr.s1, ⟨hr.below.os, hr.below.tape, hr.below.output, hsz ▸ hr.below.size, fun k hk hG => (hoth k (by omega)).trans (hr.below.block k hk hG)⟩, hr.ext, hr.nx0, ⟨Ds, rfl, hn2, fun D' hD' => ?_⟩⟩
  obtain ⟨g1, g2, g3, g4⟩ := hD D' (by simp [hD'])
  exact ⟨(hoth D' fun e => hn1 (e ▸ hD')).trans g1, g2, g3, g4⟩
theorem leave (hn0 : B.w0.heap.size ≤ B.n0) {fn : Func} {R : Ending → World → Prop} {P : Program} : ∀ (Ds : List Nat) (a : Act) (w : World), a.defers = Ds.map mark → Rel B s φ S a w →
    (∀ a' w', a'.tmps = a.tmps → Rel B s φ S a' w' → ∃ v, (results fn a'.tmps).run P w' = .ok v w' ∧ R (.returned v) w') → LeavesInM (WF none) 0 P fn a.tmps R (Ds.map mark) .returning w
  | [], a, w, _, hr, h => h a w rfl hr
  | D :: Ds, a, w, ha, hr, h => by
    obtain ⟨h1, h2⟩ := hr.unmark hn0 ha
    exact ⟨by simp, .inl ⟨D, _, rfl, run_takeDeferred h1, leave hn0 Ds { a with defers := Ds.map mark } _ rfl h2 h⟩⟩

/-- A CONTRACT. -/
theorem CG_intro {f : FuncId} {fn : Func} {body : Code} {rl : List ResultVar} {args : List D} {h0 h' : Hp} {d : D} (hf : E.P.funcs[f]? = some fn) (hb : fn.body = some body) (hn : (fn.name == "runtime.NumGoroutine") = false) (hres : fn.results = ⟨rl⟩)
    (ho : codeOk fn.ntmps body = true) (hl : decide (args.length ≤ fn.ntmps) = true) (hkeys : (h0.all fun p => (lookB h' p.1).isSome) = true) (h : AW E body (retQ E rl d h') (St.init args h0)) : CG E f args h0 d h' := by
  refine ⟨by simp [fnOk, hf, hb]; simpa using hn, fun S w vs φ hS hG hhp hGB hvs => (callsIn_wide (n := 0)).1 (callsIn_of_wp_marks (F := WF none) hf hb trivial ?_)⟩
  let B : Base := ⟨w, S, GB h0 φ, fn.ntmps, h0, φ, w.heap.size⟩
  have hB : BOK E B := ⟨hG, fun b hb => ⟨hS b hb, fun h => (hGB b h).2 hb⟩⟩
  have hlen := hvs.length
  have hl' : args.length ≤ fn.ntmps := by simpa using hl
  have hr : Rel B (St.init args h0) φ S { tmps := ⟨vs⟩ ++ Array.replicate (fn.ntmps - (⟨vs⟩ : Array Value).size) undef, defers := [] } w := by
    refine ⟨fun t => ?_, ?_, hhp, fun b x hl => mx_lt hl, hS, fun b x c t hl hp => (hGB c ⟨b, x, t, hl, hp⟩).1, fun b x c t hl hp => .inr ⟨b, x, t, hl, hp⟩, fun b h => h, fun b h _ => .inl h, ⟨rfl, rfl, rfl, Nat.le_refl _, fun _ _ _ => rfl⟩, HpOn.refl _ _, Nat.le_refl _, Marked.nil _ _ _ _ _⟩
    · have := hvs.getD (List.replicate (fn.ntmps - vs.length) undef) t
      have e : ((⟨vs⟩ : Array Value) ++ Array.replicate (fn.ntmps - (⟨vs⟩ : Array Value).size) undef).getD t undef = (vs ++ List.replicate (fn.ntmps - vs.length) undef).getD t undef := by
        rw [Array.getD_eq_getD_getElem?, List.getD_eq_getElem?_getD]
        congr 1
        rw [← Array.getElem?_toList]
        simp
      rw [e]
      exact this
    · show ((⟨vs⟩ : Array Value) ++ Array.replicate (fn.ntmps - (⟨vs⟩ : Array Value).size) undef).size = fn.ntmps
      simp
      omega
  refine AW_sound body B hB none (.inl ⟨rfl, Nat.le_refl _⟩) _ _ _ _ _ _ _ ho (fun e s φ1 S1 a w1 hr h => ?_) hr h
  have ret : ∀ a w1, Rel B s φ1 S1 a w1 → ork ((resD E s rl).map fun ds => imp (kp h') s.h (one' ds)) (fun d' => LeV d' d) False ∧ HLe (kp h') s.h h' → ∃ v, (results fn a.tmps).run E.P w1 = .ok v w1 ∧ ∃ v' S' φ', Ending.returned v = .returned v' ∧ RepV h' φ' S' w1 d v' ∧ HpAt h' φ' S' w1 ∧ HpExt h0 φ h' φ' ∧
      (∀ c, GB h' φ' c → c < w1.heap.size ∧ (w.heap.size ≤ c ∨ GB h0 φ c)) ∧ Trod (GB h0 φ) w w1 ∧ (∀ b, S b → S' b) ∧ (∀ b, S' b → b < w1.heap.size) ∧ ∀ b, S' b → b < w.heap.size → S b ∨ GB h0 φ b := by
    rintro a w1 hr ⟨h, hH⟩
    unfold ork at h
    split at h
    · rename_i d' hd'
      obtain ⟨ds, h1, h2⟩ := Option.map_eq_some_iff.1 hd'
      obtain ⟨vs', h3, h4⟩ := resD_sound hr rl ds h1
      have h5 : ∃ v, (results fn a.tmps).run E.P w1 = .ok v w1 ∧ RepV s.h φ1 S1 w1 (one' ds) v := by
        rw [results_eq, hres, show (⟨rl⟩ : Array ResultVar) = rl.toArray from rfl, List.mapM_toArray]
        simp only [map_eq_pure_bind, bind_assoc, pure_bind, Sem.run_bind, h3, Result.andThen_ok, Sem.run_pure]
        match ds, h4 with
        | [], h4 =>
          simp only [RepVs] at h4
          subst h4
          exact ⟨_, rfl, by simp [one', RepV, RepVs]⟩
        | [x], h4 =>
          simp only [RepVs] at h4
          obtain ⟨v, vs'', rfl, h6, rfl⟩ := h4
          exact ⟨v, rfl, h6⟩
        | x :: y :: r, h4 =>
          have h4' := h4
          simp only [RepVs] at h4
          obtain ⟨v, vs'', rfl, h6, v2, vs3, rfl, h7, h8⟩ := h4
          refine ⟨.tuple ⟨v :: v2 :: vs3⟩, ?_, ?_⟩
          · rw [dif_neg (by simp)]
          · simp only [one', RepV]
            exact ⟨_, rfl, h4'⟩
      obtain ⟨v, h6, h7⟩ := h5
      let fs := refs (kp h') (one' ds) ++ h'.flatMap fun p => refB (kp h') (lookB s.h p.1)
      let h2' := kH (kp h') s.h h'
      have hlook : ∀ i, lookB h2' i = if (lookB h' i).isSome then (lookB s.h i).map (impB (kp h') s.h) else none := kH_look hH
      have hkp : ∀ b i, kp h' b = some i → i = b ∧ (lookB h' b).isSome = true := fun b i e => by
        unfold kp at e
        split at e
        · rename_i hs; exact ⟨(Option.some.inj e).symm, hs⟩
        · cases e
      have hρ : ∀ b i, kp h' b = some i → ∀ x, lookB s.h b = some x → lookB h2' i = some (impB (kp h') s.h x) ∧ φ1 i = φ1 b := fun b i e x hx => by
        obtain ⟨rfl, hs⟩ := hkp b i e
        exact ⟨by rw [hlook, if_pos hs, hx]; rfl, rfl⟩
      have hback : ∀ i y, lookB h2' i = some y → ∃ b x, kp h' b = some i ∧ lookB s.h b = some x ∧ y = impB (kp h') s.h x := fun i y e => by
        rw [hlook] at e
        split at e
        · rename_i hs
          obtain ⟨x, hx, rfl⟩ := Option.map_eq_some_iff.1 e
          exact ⟨i, x, by unfold kp; rw [if_pos hs], hx, rfl⟩
        · cases e
      have hfs : ∀ b, b ∈ fs → kp h' b = none := fun b hb => by
        rcases List.mem_append.1 hb with hb | hb
        · exact (refs_none _).1 _ _ hb
        · obtain ⟨p, hp, hb⟩ := List.mem_flatMap.1 hb
          unfold refB at hb
          split at hb
          · exact (refs_none _).1 _ _ hb
          · cases hb
      have hmem : ∀ (h' : Hp) b, (lookB h' b).isSome = true → ∃ p ∈ h', p.1 = b := by
        intro h'
        induction h' with
        | nil => intro b hb; cases hb
        | cons p r ih =>
          intro b hb
          obtain ⟨j, z⟩ := p
          simp only [lookB] at hb
          split at hb
          · rename_i e; exact ⟨(j, z), by simp, e.symm⟩
          · obtain ⟨q, hq, e⟩ := ih b hb
            exact ⟨q, by simp [hq], e⟩
      have hrf : ∀ b i ag sz d, kp h' b = some i → lookB s.h b = some (.var ag sz d) → ∀ b', b' ∈ refs (kp h') d → b' ∈ fs := fun b i ag sz d e hl b' hb' => by
        obtain ⟨rfl, hs⟩ := hkp b i e
        obtain ⟨p, hp, e⟩ := hmem h' i hs
        exact List.mem_append_right _ (List.mem_flatMap.2 ⟨p, hp, by rw [e]; simp [refB, hl, hb']⟩)
      have hhp2 : HpAt h2' φ1 (Fz s.h φ1 S1 fs) w1 := imp_hp hr.hp hρ hback hfs hrf
      have hrep := imp_rep (fs := fs) hr.hp hρ (one' ds) v h7 fun b hb => List.mem_append_left _ hb
      have hz := hr.frz fs
      have hB2 : ∀ i y, lookB h' i = some y → ∃ x, lookB s.h i = some x ∧ lookB h2' i = some (impB (kp h') s.h x) ∧ BLe (some (impB (kp h') s.h x)) y := fun i y e => by
        obtain ⟨x, hx, hle⟩ := hH.look i y e
        exact ⟨x, hx, by rw [hlook, e, hx]; rfl, hle⟩
      have hB3 : ∀ i x, lookB h2' i = some x → ∃ y, lookB h' i = some y ∧ BLe (some x) y := fun i x e => by
        have e' := e
        rw [hlook] at e'
        split at e'
        · rename_i hs
          obtain ⟨y, hy⟩ := Option.isSome_iff_exists.1 hs
          obtain ⟨x', _, e2, hle⟩ := hB2 i y hy
          rw [e] at e2
          cases e2
          exact ⟨y, hy, hle⟩
        · cases e'
      have hx2 : HpExt h2' φ1 h' φ1 := fun b => ⟨fun ag sz d e => by
          obtain ⟨y, hy, hle⟩ := hB3 b _ e
          cases y with
          | var ag' sz' d' => obtain ⟨rfl, rfl, _⟩ := hle; exact ⟨⟨_, hy⟩, rfl⟩
          | row => exact hle.elim,
        fun fz ver ag sz m f e => by
          obtain ⟨y, hy, hle⟩ := hB3 b _ e
          cases y with
          | var => exact hle.elim
          | row fz' ver' ag' sz' m' f' => obtain ⟨rfl, rfl, rfl, rfl, rfl, _⟩ := hle; exact ⟨_, _, _, _, hy, Nat.le_refl _, fun _ => ⟨Nat.le_refl _, rfl⟩⟩⟩
      have hk : Kept (Fz s.h φ1 S1 fs) w1 w1 := fun _ _ => rfl
      refine ⟨v, h6, v, Fz s.h φ1 S1 fs, φ1, rfl, h _ _ _ _ _ (h2 ▸ RepV.mono hx2 hk (fun _ h => h) _ _ hrep), ⟨fun b y e => ?_, fun b b' y y' c t t' l l' p p' => ?_⟩, fun b => ⟨fun ag sz d e => ?_, fun fz ver ag sz m f e => ?_⟩, fun c hc => ?_, hr.below, hz.s0, hz.slt, hz.s1⟩
      · obtain ⟨x, hx, e2, hle⟩ := hB2 b y e
        have hblk := hhp2.blk b _ e2
        revert hblk hle
        generalize impB (kp h') s.h x = z
        intro hle hblk
        cases z with
        | var ag sz d0 =>
          cases y with
          | row => exact hle.elim
          | var ag' sz' d' =>
            obtain ⟨rfl, rfl, hle⟩ := hle
            obtain ⟨c, t, g1, g2, x, vs, e, lo, hi, g3, g4, g5, g6, g7⟩ := hblk
            exact ⟨c, t, g1, g2, x, vs, e, lo, hi, g3, g4, g5, g6, hle _ _ _ _ _ (RepV.mono hx2 hk (fun _ h => h) _ _ g7)⟩
        | row fz ver ag sz n f =>
          cases y with
          | var => exact hle.elim
          | row fz' ver' ag' sz' n' f' =>
            obtain ⟨rfl, rfl, rfl, rfl, rfl, hle⟩ := hle
            refine ⟨hblk.1, fun c tot e => ?_⟩
            obtain ⟨g1, g2, g3, g4, vs, ty, lo, hi, g5, g6, g7, g8⟩ := hblk.2 c tot e
            refine ⟨g1, g2, g3, g4, vs, ty, lo, hi, g5, g6, g7, fun i hi => ?_⟩
            obtain ⟨x, k1, k2⟩ := g8 i hi
            exact ⟨x, k1, hle i hi _ _ _ k2⟩
      · obtain ⟨x, _, e2, _⟩ := hB2 b y l
        obtain ⟨x', _, e2', _⟩ := hB2 b' y' l'
        exact hhp2.inj b b' _ _ c t t' e2 e2' p p'
      · have hk2 := List.all_eq_true.1 hkeys
        obtain ⟨p, hp, e3⟩ := hmem h0 b (by rw [e]; rfl)
        have := hk2 p hp
        rw [e3] at this
        obtain ⟨y, hy⟩ := Option.isSome_iff_exists.1 this
        obtain ⟨x, hx, _, hle⟩ := hB2 b y hy
        obtain ⟨⟨d1, e4⟩, e5⟩ := (hr.ext b (by rw [hx]; rfl)).1 ag sz d e
        rw [hx] at e4
        cases e4
        cases y with
        | row => exact hle.elim
        | var ag' sz' d' => obtain ⟨rfl, rfl, _⟩ := hle; exact ⟨⟨_, hy⟩, e5⟩
      · have hk2 := List.all_eq_true.1 hkeys
        obtain ⟨p, hp, e3⟩ := hmem h0 b (by rw [e]; rfl)
        have := hk2 p hp
        rw [e3] at this
        obtain ⟨y, hy⟩ := Option.isSome_iff_exists.1 this
        obtain ⟨x, hx, _, hle⟩ := hB2 b y hy
        obtain ⟨fz2, ver2, m2, f2, e4, e5, e6⟩ := (hr.ext b (by rw [hx]; rfl)).2 _ _ _ _ _ _ e
        rw [hx] at e4
        cases e4
        cases y with
        | var => exact hle.elim
        | row fz' ver' ag' sz' n' f' => obtain ⟨rfl, rfl, rfl, rfl, rfl, _⟩ := hle; exact ⟨_, _, _, _, hy, e5, e6⟩
      · obtain ⟨b, y, t, e, hp⟩ := hc
        obtain ⟨x, hx, _, _⟩ := hB2 b y e
        exact ⟨hr.plt b x c t hx hp, hr.old b x c t hx hp⟩
    · exact h.elim
  have fin : ork ((resD E s rl).map fun ds => imp (kp h') s.h (one' ds)) (fun d' => LeV d' d) False ∧ HLe (kp h') s.h h' → LeavesInM (WF none) 0 E.P fn a.tmps (fun e w1 => ∃ v S' φ', e = .returned v ∧ RepV h' φ' S' w1 d v ∧ HpAt h' φ' S' w1 ∧ HpExt h0 φ h' φ' ∧ (∀ c, GB h' φ' c → c < w1.heap.size ∧ (w.heap.size ≤ c ∨ GB h0 φ c)) ∧ Trod (GB h0 φ) w w1 ∧
      (∀ b, S b → S' b) ∧ (∀ b, S' b → b < w1.heap.size) ∧ ∀ b, S' b → b < w.heap.size → S b ∨ GB h0 φ b) a.defers .returning w1 := fun h => by
    obtain ⟨Ds, e, _⟩ := hr.def0
    rw [show a.defers = Ds.map mark from e]
    exact leave (Nat.le_refl _) Ds a w1 e hr fun a' w' _ hr' => ret a' w' hr' h
  cases e <;> first | exact fin h | exact (show False from h).elim
end

end Go.Proofs.YtpobbfhdkbnpmaaDoor.Lv
