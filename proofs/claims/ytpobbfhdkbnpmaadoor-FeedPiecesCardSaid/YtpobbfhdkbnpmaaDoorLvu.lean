/- The abstract machine: a nil slice as an empty row of the call's own; decisions found by reckoning. -/
import Derived.Test.YtpobbfhdkbnpmaaDoorLc
set_option linter.unusedVariables false
set_option linter.unusedSimpArgs false
namespace Go.Proofs.YtpobbfhdkbnpmaaDoor.Lv
open Go Go.RowKit

/-- A nil slice is an empty row, without memory. -/
theorem Wk.nil {n : Nat} {e : Nat → D} {h : Hp} {nx : Nat} (t0 : Nat) (ag : Bool) (sz : Nat) (f : Nat → D) (he : e t0 = .nils) (hsz : n ≤ nx) : Wk n ⟨e, h, nx⟩ ⟨upd e t0 (.sl nx 0 0 0), (nx, .row false 0 ag sz 0 f) :: h, nx + 1⟩ := by
  intro B φ S a w hnB hr
  let φ' : Ph := fun b => if b = nx then none else φ b
  have hne : ∀ b x, lookB h b = some x → b ≠ nx := fun b x hl e => by have := hr.nx b x hl; simp only at this; omega
  have hlk : ∀ b x, lookB h b = some x → lookB ((nx, Blk.row false 0 ag sz 0 f) :: h) b = some x := fun b x hl => by
    simp only [lookB]; rw [if_neg (hne b x hl)]; exact hl
  have hlk' : ∀ b x, lookB ((nx, Blk.row false 0 ag sz 0 f) :: h) b = some x → (b = nx ∧ x = .row false 0 ag sz 0 f) ∨ (b ≠ nx ∧ lookB h b = some x) := fun b x hl => by
    simp only [lookB] at hl
    split at hl
    · rename_i e; cases hl; exact .inl ⟨e, rfl⟩
    · rename_i e; exact .inr ⟨e, hl⟩
  have hx : HpExt h φ ((nx, .row false 0 ag sz 0 f) :: h) φ' := fun b =>
    ⟨fun ag' sz' d hl => ⟨⟨d, hlk _ _ hl⟩, if_neg (hne _ _ hl)⟩, fun fz ver ag' sz' m g hl => ⟨fz, ver, m, g, hlk _ _ hl, Nat.le_refl _, fun _ => ⟨Nat.le_refl _, if_neg (hne _ _ hl)⟩⟩⟩
  have hk : Kept S w w := fun _ _ => rfl
  refine ⟨φ', S, fun t => ?_, hr.size, ⟨fun b x hl => ?_, fun b b' x x' c t t' hl hl' hp hp' => ?_⟩, fun b x hl => ?_, hr.slt, fun b x c t hl hp => ?_, fun b x c t hl hp => ?_, hr.s0, hr.s1, hr.below, ?_, ?_, ?_⟩
  · by_cases e : t = t0
    · subst e
      have hv := hr.env t
      simp only [he, RepV, Rep0] at hv
      simp only [upd, if_true, RepV]
      exact ⟨false, 0, ag, sz, 0, f, by simp [lookB], Nat.le_refl _, fun _ => ⟨by omega, none, 0, hv, by omega, fun _ => ⟨rfl, rfl⟩, fun c tot hc => by simp [φ'] at hc⟩⟩
    · simp only [upd, if_neg e]
      exact RepV.mono hx hk (fun _ h => h) _ _ (hr.env t)
  · rcases hlk' b x hl with ⟨rfl, rfl⟩ | ⟨hb, hl⟩
    · exact ⟨fun _ => rfl, fun c tot hc => by simp [φ'] at hc⟩
    · exact BlkAt.move hx hk (fun _ h => h) (if_neg hb) (fun _ _ _ => rfl) (fun _ _ _ h => h) (hr.hp.blk b x hl)
  · rcases hlk' b x hl with ⟨rfl, rfl⟩ | ⟨hb, hl⟩
    · simp [φ'] at hp
    · rcases hlk' b' x' hl' with ⟨rfl, rfl⟩ | ⟨hb', hl'⟩
      · simp [φ'] at hp'
      · simp only [φ', if_neg hb] at hp
        simp only [φ', if_neg hb'] at hp'
        exact hr.hp.inj b b' x x' c t t' hl hl' hp hp'
  · rcases hlk' b x hl with ⟨rfl, rfl⟩ | ⟨hb, hl⟩
    · exact Nat.lt_succ_self _
    · exact Nat.lt_succ_of_lt (hr.nx b x hl)
  · rcases hlk' b x hl with ⟨rfl, rfl⟩ | ⟨hb, hl⟩
    · simp [φ'] at hp
    · simp only [φ', if_neg hb] at hp; exact hr.plt b x c t hl hp
  · rcases hlk' b x hl with ⟨rfl, rfl⟩ | ⟨hb, hl⟩
    · simp [φ'] at hp
    · simp only [φ', if_neg hb] at hp; exact hr.old b x c t hl hp
  · refine hr.ext.trans hx fun b hb => ?_
    obtain ⟨x, hl⟩ := Option.isSome_iff_exists.1 hb
    rcases hlk' b x hl with ⟨rfl, rfl⟩ | ⟨hb, hl⟩
    · right
      cases h0 : lookB B.h0 b with
      | none => rfl
      | some y => have h1 := mx_lt h0; have h2 := hr.nx0; simp only at h2; omega
    · left; rw [hl]; rfl
  · exact Nat.le_succ_of_le hr.nx0
  · refine hr.def0.move fun D h1 h2 h3 h4 => ⟨rfl, h3, fun b x c t hl hp => ?_⟩
    rcases hlk' b x hl with ⟨rfl, rfl⟩ | ⟨hb, hl⟩
    · simp [φ'] at hp
    · simp only [φ', if_neg hb] at hp; exact h4 b x c t hl hp
/-- A loop that appends to what is nil at first: the row has the number 'nx'. -/
theorem AL.ofN (t0 : Nat) (ag : Bool) (sz : Nat) (f : Nat → D) {α : Type} (P : α → Prop) (μ : α → Nat) (L : α → List (Nat × D)) (H : α → Hp) (x : α) {F : (Exit → St → Prop) → St → Prop} {Q : Exit → St → Prop} {e : Nat → D} {h : Hp} {nx : Nat} (he : e t0 = .nils) (hx : P x)
    (hL : EnvLe (kp (H x)) ((nx, .row false 0 ag sz 0 f) :: h) (upd e t0 (.sl nx 0 0 0)) (L x)) (hH : HLe (kp (H x)) ((nx, .row false 0 ag sz 0 f) :: h) (H x))
    (hm : ∀ x, P x → mx (H x) ≤ nx + 1) (round : ∀ x, P x → F (thn (Nxt P μ L H x) Q) ⟨look .unk (L x), H x, nx + 1⟩) : AL F Q ⟨e, h, nx⟩ := by
  refine AL.inv (fun n s => ∃ x, P x ∧ μ x = n ∧ s = ⟨look .unk (L x), H x, nx + 1⟩) (μ x) _ _ ((Wk.nil t0 ag sz f he (Nat.le_refl _)).trans (Wk.gen (L x) (H x) (nx + 1) (Nat.le_succ _) (hm x hx) hL hH)) ⟨x, hx, rfl, rfl⟩ ?_
  rintro n s ⟨x, hx, rfl, rfl⟩
  refine ⟨Nxt P μ L H x, ?_, round x hx⟩
  rintro ⟨e', h', nx'⟩ ⟨x', h1, h2, h3, h4⟩
  exact ⟨μ x', h2, _, Wk.gen (L x') (H x') (nx + 1) (Nat.le_succ _) (hm x' h1) h3 h4, x', h1, rfl, rfl⟩

/-- Slots that hold just this. -/
def EnvEq (e : Nat → D) : List (Nat × D) → Prop
  | [] => True
  | (t, d) :: r => e t = d ∧ EnvEq e r
theorem EnvEq_nil (e : Nat → D) : EnvEq e [] = True := Eq.trans rfl rfl
theorem EnvEq_cons (e : Nat → D) (t : Nat) (d : D) (r : List (Nat × D)) : EnvEq e ((t, d) :: r) = (e t = d ∧ EnvEq e r) := Eq.trans rfl rfl
attribute [go_sem] EnvEq_nil EnvEq_cons
section
variable {E : Ctx}
/-- From here on only these slots are told. -/
theorem CallX_env (L : List (Nat × D)) {g : FuncId} {ds : List D} {K : St → Prop} {e : Nat → D} {h : Hp} {nx : Nat} {dst : Option Nat} (hL : EnvEq e L) (k : ∀ e', EnvEq e' L → CallX E g ds K ⟨e', h, nx⟩ dst) : CallX E g ds K ⟨e, h, nx⟩ dst := k e hL
theorem AR_env (L : List (Nat × D)) {all : Array Oper} {os : List Oper} {K : St → Prop} {e : Nat → D} {h : Hp} {nx : Nat} (hL : EnvEq e L) (k : ∀ e', EnvEq e' L → AR E all os K ⟨e', h, nx⟩) : AR E all os K ⟨e, h, nx⟩ := k e hL
theorem AW_env (L : List (Nat × D)) {c : Code} {Q : Exit → St → Prop} {e : Nat → D} {h : Hp} {nx : Nat} (hL : EnvEq e L) (k : ∀ e', EnvEq e' L → AW E c Q ⟨e', h, nx⟩) : AW E c Q ⟨e, h, nx⟩ := k e hL
end
/-- Decisions. -/
theorem dlt_t {a b : Int} (h : a < b) : decide (a < b) = true := decide_eq_true h
theorem dlt_f {a b : Int} (h : b ≤ a) : decide (a < b) = false := decide_eq_false (by omega)
theorem dle_t {a b : Int} (h : a ≤ b) : decide (a ≤ b) = true := decide_eq_true h
theorem dle_f {a b : Int} (h : b < a) : decide (a ≤ b) = false := decide_eq_false (by omega)
theorem dgt_t {a b : Int} (h : b < a) : decide (a > b) = true := decide_eq_true h
theorem dgt_f {a b : Int} (h : a ≤ b) : decide (a > b) = false := decide_eq_false (by omega)
theorem dge_t {a b : Int} (h : b ≤ a) : decide (a ≥ b) = true := decide_eq_true h
theorem dge_f {a b : Int} (h : a < b) : decide (a ≥ b) = false := decide_eq_false (by omega)
theorem ieq_t {a b : Int} (h : a = b) : (a == b) = true := by simp [h]
theorem ieq_f {a b : Int} (h : a < b ∨ b < a) : (a == b) = false := by rw [beq_eq_false_iff_ne]; omega
theorem ine_t {a b : Int} (h : a < b ∨ b < a) : (a != b) = true := by rw [bne_iff_ne]; omega
theorem ine_f {a b : Int} (h : a = b) : (a != b) = false := by simp [h]
attribute [go_sem] dlt_t dlt_f dle_t dle_f dgt_t dgt_f dge_t dge_f ieq_t ieq_f ine_t ine_f
end Go.Proofs.YtpobbfhdkbnpmaaDoor.Lv
