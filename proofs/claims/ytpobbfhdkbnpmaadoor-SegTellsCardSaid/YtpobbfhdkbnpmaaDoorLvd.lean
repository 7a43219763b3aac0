/- The abstract machine: the operations that only reckon or read, all together. -/
import Derived.Test.YtpobbfhdkbnpmaaDoorLvc
set_option linter.unusedVariables false
set_option linter.unusedSimpArgs false
namespace Go.Proofs.YtpobbfhdkbnpmaaDoor.Lv
open Go Go.RowKit

section
variable {H : Hp} {φ : Ph} {S : Nat → Prop} {w : World}
mutual
theorem ofVal_rep : ∀ v : Value, Rep0 S w (ofVal v) v
  | .int .. | .bool .. | .pointer none | .map none | .nilFunc => by simp [ofVal, Rep0]
  | .string s => by simp [ofVal, Rep0]
  | .slice none n c => by
    unfold ofVal
    split
    · rename_i h; obtain ⟨rfl, rfl⟩ := h; simp [Rep0]
    · simp [Rep0]
  | .agg ⟨cs⟩ => by simp only [ofVal, Rep0]; exact ⟨cs, rfl, ofVals_rep cs⟩
  | .float .. | .complex .. | .pointer (some _) | .slice (some _) .. | .map (some _) | .chan _ | .func .. | .iface .. | .nilIface | .tuple _ => by simp [ofVal, Rep0]
theorem ofVals_rep : ∀ vs : List Value, Rep0s S w (ofVals vs) vs
  | [] => by simp [ofVals, Rep0s]
  | v :: vs => by simp only [ofVals, Rep0s]; exact ⟨v, vs, rfl, ofVal_rep v, ofVals_rep vs⟩
end

theorem eqIn_bool {P : Program} (d : Nat) {t : Nat} (a b : Bool) (hu : P.underlying t = some .bool) : (Op.equalIn (d + 1) t (.bool a) (.bool b)).run P w = .ok (a == b) w := by
  unfold Op.equalIn
  simp only [Sem.run_bind, run_und hu, Result.andThen_ok, Sem.run_pure]
theorem eqIn_nn {P : Program} (d : Nat) {t e : Nat} (hu : P.underlying t = some (.pointer e)) : (Op.equalIn (d + 1) t (.pointer none) (.pointer none)).run P w = .ok true w := by
  unfold Op.equalIn
  simp only [Sem.run_bind, run_und hu, Result.andThen_ok, Sem.run_pure, Option.isNone_none]
theorem eqIn_ns {P : Program} (d : Nat) {t e : Nat} (a : Addr) (hu : P.underlying t = some (.pointer e)) : (Op.equalIn (d + 1) t (.pointer none) (.pointer (some a))).run P w = .ok false w := by
  unfold Op.equalIn
  simp only [Sem.run_bind, run_und hu, Result.andThen_ok, Sem.run_pure, Option.isNone_some]
theorem eqIn_sn {P : Program} (d : Nat) {t e : Nat} (a : Addr) (hu : P.underlying t = some (.pointer e)) : (Op.equalIn (d + 1) t (.pointer (some a)) (.pointer none)).run P w = .ok false w := by
  unfold Op.equalIn
  simp only [Sem.run_bind, run_und hu, Result.andThen_ok, Sem.run_pure]
theorem run_eq {P : Program} {t : Nat} {x y : Value} {b : Bool} (h : (Op.equalIn (9999 + 1) t x y).run P w = .ok b w) : (Op.equal t x y).run P w = .ok b w := h

theorem bin_sound {E : Ctx} {op : BinOp} {t : Nat} {xo yo : Operand} {x y : Value} {dx dy d : D} (hx : RepV H φ S w dx x) (hy : RepV H φ S w dy y) (h : bin (E.tt t).k op dx dy = some d) :
    ∃ v, (do eqGuard op t xo yo x y; binOp op t x y : Sem Value).run E.P w = .ok v w ∧ RepV H φ S w d v := by
  have hg : ∀ (x y : Value), (∀ z, x ≠ .agg z) → x ≠ .nilIface → (eqGuard op t xo yo x y).run E.P w = .ok () w := by
    intro x y h1 h2
    unfold eqGuard
    cases op <;> simp <;> cases x <;> first | rfl | (exfalso; exact h1 _ rfl) | (exfalso; exact h2 rfl) | (cases y <;> rfl)
  unfold bin at h
  split at h
  · rename_i k a k' b
    simp only [RepV, Rep0] at hx hy
    subst hx hy
    simp only [Sem.run_bind, hg (.int k a) (.int k' b) (by simp) (by simp), Result.andThen_ok]
    cases op <;> simp only [binOp, Op.shift, Op.intArith, Op.intDiv, Op.intBits, Op.intCmp, grd] at h ⊢ <;> (repeat' split at h) <;>
      simp_all [bits, RepV, Rep0] <;> (subst h) <;> simp [RepV, Rep0] <;> omega
  · rename_i a b
    simp only [RepV, Rep0] at hx hy
    subst hx hy
    simp only [Sem.run_bind, hg (.bool a) (.bool b) (by simp) (by simp), Result.andThen_ok]
    split at h
    all_goals first | cases h | skip
    all_goals
      rename_i hk
      obtain ⟨i, ds, hi, hu, he⟩ := ti_of (E := E) (t := t) (by rw [hk]; simp)
      rw [he] at hk
      simp only at hk
      cases ds <;> simp only [tkOf, reduceCtorEq] at hk
      simp only [binOp, Sem.run_bind, run_eq (eqIn_bool 9999 a b hu), Result.andThen_ok, Sem.run_pure]
      exact ⟨_, rfl, by simp [RepV, Rep0]⟩
  · rename_i a b
    simp only [RepV, Rep0] at hx hy
    subst hx hy
    simp only [Sem.run_bind, hg (.string _) (.string _) (by simp) (by simp), Result.andThen_ok]
    split at h <;> simp only [grd, Option.some.injEq, reduceCtorEq] at h
    · subst h
      refine ⟨.bool (a == b), ?_, by simp [RepV, Rep0]⟩
      simp [binOp, Op.stringOp, ByteArray.toList_eq]
    · subst h
      refine ⟨.bool (!(a == b)), ?_, by simp [RepV, Rep0]⟩
      simp [binOp, Op.stringOp, ByteArray.toList_eq]
    · split at h
      · rename_i hl
        simp only [Option.some.injEq] at h
        subst h
        refine ⟨.string ⟨(a ++ b).toArray⟩, ?_, by simp [RepV, Rep0]⟩
        have hl' : ¬ ((((a.length + b.length : Nat) : Int)) > IntKind.max .i64) := by
          simp only [IntKind.max, IntKind.signed, IntKind.bits, if_true]
          omega
        have he : (⟨a.toArray⟩ : ByteArray) ++ ⟨b.toArray⟩ = ⟨(a ++ b).toArray⟩ := by
          apply ByteArray.ext
          simp [ByteArray.data_append]
        simp only [binOp, Op.stringOp, ByteArray.size, List.size_toArray, if_neg hl', Sem.run_pure, he]
      · cases h
  all_goals first | cases h | skip
  · simp only [RepV, Rep0] at hx hy
    subst hx hy
    simp only [Sem.run_bind, hg (.pointer _) (.pointer _) (by simp) (by simp), Result.andThen_ok]
    split at h
    all_goals first | cases h | skip
    all_goals
      rename_i hk
      obtain ⟨i, ds, hi, hu, he⟩ := ti_of (E := E) (t := t) (by rw [hk]; simp)
      rw [he] at hk
      simp only at hk
      cases ds <;> simp only [tkOf, reduceCtorEq] at hk
      simp only [binOp, Sem.run_bind, run_eq (eqIn_nn 9999 hu), Result.andThen_ok, Sem.run_pure]
      exact ⟨_, rfl, by simp [RepV, Rep0]⟩
  · simp only [RepV, Rep0] at hx hy
    obtain ⟨ag, sz, d0, c, tt, _, _, hx⟩ := hx
    subst hx hy
    simp only [Sem.run_bind, hg (.pointer _) (.pointer _) (by simp) (by simp), Result.andThen_ok]
    split at h
    all_goals first | cases h | skip
    all_goals
      rename_i hk
      obtain ⟨i, ds, hi, hu, he⟩ := ti_of (E := E) (t := t) (by rw [hk]; simp)
      rw [he] at hk
      simp only at hk
      cases ds <;> simp only [tkOf, reduceCtorEq] at hk
      simp only [binOp, Sem.run_bind, run_eq (eqIn_sn 9999 _ hu), Result.andThen_ok, Sem.run_pure]
      exact ⟨_, rfl, by simp [RepV, Rep0]⟩
  · simp only [RepV, Rep0] at hx hy
    obtain ⟨ag, sz, d0, c, tt, _, _, hy⟩ := hy
    subst hx hy
    simp only [Sem.run_bind, hg (.pointer _) (.pointer _) (by simp) (by simp), Result.andThen_ok]
    split at h
    all_goals first | cases h | skip
    all_goals
      rename_i hk
      obtain ⟨i, ds, hi, hu, he⟩ := ti_of (E := E) (t := t) (by rw [hk]; simp)
      rw [he] at hk
      simp only at hk
      cases ds <;> simp only [tkOf, reduceCtorEq] at hk
      simp only [binOp, Sem.run_bind, run_eq (eqIn_ns 9999 _ hu), Result.andThen_ok, Sem.run_pure]
      exact ⟨_, rfl, by simp [RepV, Rep0]⟩

theorem un_sound {E : Ctx} {op : UnOp} {x : Value} {dx d : D} (hx : RepV H φ S w dx x) (h : un op dx = some d) : ∃ v, (Op.unary op x).run E.P w = .ok v w ∧ RepV H φ S w d v := by
  unfold un at h
  split at h
  · rename_i k n
    simp only [RepV, Rep0] at hx
    subst hx
    cases op <;> simp only [Option.some.injEq, reduceCtorEq] at h <;> subst h <;> simp [Op.unary, Op.intArith, Op.intBits, bits, RepV, Rep0]
  · simp only [RepV, Rep0] at hx
    subst hx
    cases op <;> simp only [Option.some.injEq, reduceCtorEq] at h <;> subst h <;> simp [Op.unary, RepV, Rep0]
  · cases h

theorem kind_of {E : Ctx} {t : Nat} {k : TK} (h : (E.tt t).k = k) (hb : k ≠ .bad) : ∃ i d, E.P.info? t = some i ∧ E.P.underlying t = some d ∧ tkOf d = k ∧ (E.tt t).ag = agOf d ∧ (E.tt t).sz = i.size := by
  obtain ⟨i, d, h1, h2, h3⟩ := ti_of (E := E) (t := t) (by rw [h]; exact hb)
  refine ⟨i, d, h1, h2, ?_, ?_, ?_⟩
  · rw [h3] at h; exact h
  · rw [h3]
  · rw [h3]
theorem und_slc {E : Ctx} {t e : Nat} (h : (E.tt t).k = .slc e) : E.P.underlying t = some (.slice e) := by
  obtain ⟨i, d, h1, h2, h3, _⟩ := kind_of h (by simp)
  cases d <;> simp [tkOf] at h3
  exact h3 ▸ h2
theorem und_str {E : Ctx} {t : Nat} (h : (E.tt t).k = .string) : E.P.underlying t = some .string := by
  obtain ⟨i, d, h1, h2, h3, _⟩ := kind_of h (by simp)
  cases d <;> simp [tkOf] at h3
  exact h2
theorem und_arr {E : Ctx} {t n e : Nat} (h : (E.tt t).k = .arr n e) : E.P.underlying t = some (.array n e) := by
  obtain ⟨i, d, h1, h2, h3, _⟩ := kind_of h (by simp)
  cases d <;> simp [tkOf] at h3
  obtain ⟨rfl, rfl⟩ := h3
  exact h2
theorem und_int {E : Ctx} {t : Nat} {k : IntKind} (h : (E.tt t).k = .int k) : E.P.underlying t = some (.int k) := by
  obtain ⟨i, d, h1, h2, h3, _⟩ := kind_of h (by simp)
  cases d <;> simp [tkOf] at h3
  exact h3 ▸ h2
theorem und_strct {E : Ctx} {t : Nat} {fs : List (Nat × Nat)} (h : (E.tt t).k = .strct fs) : ∃ F : Array Field, E.P.underlying t = some (.struct F) ∧ fs = F.toList.map fun f => (f.offset, f.type) := by
  obtain ⟨i, d, h1, h2, h3, _⟩ := kind_of h (by simp)
  cases d <;> simp [tkOf] at h3
  exact ⟨_, h2, h3.symm⟩
/-- A type's size, where it is not 0. -/
theorem sz_of {E : Ctx} {t : Nat} (h : (E.tt t).sz ≠ 0) : ∃ i d, E.P.info? t = some i ∧ E.P.underlying t = some d ∧ (E.tt t).sz = i.size ∧ (E.tt t).ag = agOf d := by
  have hk : (E.tt t).k ≠ .bad := by
    intro e
    apply h
    rw [E.htt] at e ⊢
    unfold tiOf at e ⊢
    split at e
    · rename_i d _ _; cases d <;> simp [tkOf] at e
    · rfl
  obtain ⟨i, d, h1, h2, h3⟩ := ti_of hk
  exact ⟨i, d, h1, h2, by rw [h3], by rw [h3]⟩

theorem len_sound {E : Ctx} {t : Nat} {ty : TypeId} {x : Value} {dx d : D} (hx : RepV H φ S w dx x) (h : lenD H (E.tt t).k dx = some d) :
    ∃ v, (Builtin.len_ #[t] ty #[x]).run E.P w = .ok v w ∧ RepV H φ S w d v := by
  have e0 : (#[t] : Array TypeId)[0]? = some t := rfl
  have e1 : (#[x] : Array Value)[0]? = some x := rfl
  unfold lenD at h
  unfold Builtin.len_
  simp only [e0, e1, Sem.run_bind]
  split at h
  · rename_i hk
    simp only [RepV, Rep0] at hx
    obtain ⟨a, cap, rfl, _⟩ := hx
    simp only [Option.some.injEq] at h
    subst h
    simp only [run_und (und_slc hk), Result.andThen_ok, Sem.run_pure]
    exact ⟨_, rfl, by simp [RepV, Rep0, goInt]⟩
  · rename_i hk
    simp only [RepV] at hx
    obtain ⟨fz, ver', ag, sz, m, f, hl, hv, hr⟩ := hx
    rw [hl] at h
    simp only at h
    split at h
    · rename_i hver
      obtain ⟨_, a, cap, rfl, _⟩ := hr hver
      simp only [Option.some.injEq] at h
      subst h
      simp only [run_und (und_slc hk), Result.andThen_ok, Sem.run_pure]
      exact ⟨_, rfl, by simp [RepV, Rep0, goInt]⟩
    · cases h
  · rename_i hk
    simp only [RepV, Rep0] at hx
    subst hx
    simp only [Option.some.injEq] at h
    subst h
    simp only [run_und (und_slc hk), Result.andThen_ok, Sem.run_pure]
    exact ⟨_, rfl, by simp [RepV, Rep0, goInt]⟩
  · rename_i hk
    simp only [RepV] at hx
    obtain ⟨_, _, _, _, _, a, cap, _, _, rfl, _⟩ := hx
    simp only [Option.some.injEq] at h
    subst h
    simp only [run_und (und_slc hk), Result.andThen_ok, Sem.run_pure]
    exact ⟨_, rfl, by simp [RepV, Rep0, goInt]⟩
  · rename_i hk
    simp only [RepV, Rep0] at hx
    subst hx
    simp only [Option.some.injEq] at h
    subst h
    simp only [run_und (und_str hk), Result.andThen_ok, Sem.run_pure]
    exact ⟨_, rfl, by simp [RepV, Rep0, goInt, ByteArray.size]⟩
  · rename_i hk
    simp only [Option.some.injEq] at h
    subst h
    simp only [run_und (und_arr hk), Result.andThen_ok, Sem.run_pure]
    exact ⟨_, rfl, by simp [RepV, Rep0, goInt]⟩
  · cases h

theorem bds_sound {P : Program} {b : Bool} {n cap : Nat} {lo hi : Option D} {vlo vhi : Option Value} {p : Int × Int} (hc : n ≤ cap)
    (hlo : ∀ d, lo = some d → ∃ v, vlo = some v ∧ RepV H φ S w d v) (hlo0 : lo = none → vlo = none)
    (hhi : ∀ d, hi = some d → ∃ v, vhi = some v ∧ RepV H φ S w d v) (hhi0 : hi = none → vhi = none)
    (h : bds n lo hi = some p) (h1 : 0 ≤ p.1) (h2 : p.1 ≤ p.2) (h3 : p.2 ≤ n) :
    (Instr.sliceBounds b n cap vlo vhi none).run P w = .ok (p.1.toNat, p.2.toNat, cap) w := by
  unfold Instr.sliceBounds
  unfold bds at h
  split at h
  · rw [hlo0 rfl, hhi0 rfl]
    simp only [Option.some.injEq] at h
    subst h
    simp
  · rename_i k l
    obtain ⟨v, rfl, hv⟩ := hlo _ rfl
    simp only [RepV, Rep0] at hv
    subst hv
    rw [hhi0 rfl]
    simp only [Option.some.injEq] at h
    subst h
    simp only at h1 h2 h3
    have : (0 ≤ l ∧ l ≤ (n : Int)) := ⟨h1, h2⟩
    simp [Instr.sliceBound, asIntOf, this]
  · rename_i k l
    obtain ⟨v, rfl, hv⟩ := hhi _ rfl
    simp only [RepV, Rep0] at hv
    subst hv
    rw [hlo0 rfl]
    simp only [Option.some.injEq] at h
    subst h
    simp only at h1 h2 h3
    have : (0 ≤ l ∧ l ≤ (cap : Int)) := ⟨h2, by omega⟩
    simp [Instr.sliceBound, asIntOf, this]
  · rename_i k l k' l'
    obtain ⟨v, rfl, hv⟩ := hhi _ rfl
    simp only [RepV, Rep0] at hv
    subst hv
    obtain ⟨v, rfl, hv⟩ := hlo _ rfl
    simp only [RepV, Rep0] at hv
    subst hv
    simp only [Option.some.injEq] at h
    subst h
    simp only at h1 h2 h3
    have e1 : (0 ≤ l' ∧ l' ≤ (cap : Int)) := ⟨by omega, by omega⟩
    have e2 : (0 ≤ l ∧ l ≤ (l'.toNat : Int)) := ⟨by omega, by omega⟩
    simp [Instr.sliceBound, asIntOf, e1, e2]
    intro hh
    omega
  · cases h
end

end Go.Proofs.YtpobbfhdkbnpmaaDoor.Lv
