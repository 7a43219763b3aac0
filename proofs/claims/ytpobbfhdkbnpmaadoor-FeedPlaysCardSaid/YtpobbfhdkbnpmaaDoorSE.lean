/- strings.Join and HasPrefix, as contracts of the engine. -/
import Derived.Test.YtpobbfhdkbnpmaaDoorE
import Derived.Test.YtpobbfhdkbnpmaaDoorSh
set_option linter.unusedVariables false
set_option linter.unusedSimpArgs false
set_option maxRecDepth 100000
set_option maxHeartbeats 4000000
namespace Go.Proofs.YtpobbfhdkbnpmaaDoor.Lv
open Go Go.RowKit

/-- A contract of a walk of the kit's: it takes no blocks, and what it makes leads nowhere. -/
theorem C.of_calls {E : Ctx} {f : FuncId} {args : List D} {d : D} (hf : fnOk E.P f = true) (h : ∀ S w vs, (∀ b, S b → b < w.heap.size) → RepVs [] (fun _ => none) S w args vs → Calls E.P f ⟨vs⟩ w fun e w' => ∃ v, e = .returned v ∧ (∀ S w, Rep0 S w d v) ∧ Below w.heap.size w w')
    (hφ : ∀ φ S w vs, RepVs [] φ S w args vs → RepVs [] (fun _ => none) S w args vs) : C E f args d := by
  refine ⟨hf, fun S w vs φ hS _ _ _ hv => (h S w vs hS (hφ _ _ _ _ hv)).mono ?_⟩
  rintro e w' ⟨v, he, hr, hb⟩
  exact ⟨v, S, φ, he, Rep0.toV _ _ (hr S w'), ⟨fun b x h => by simp [lookB] at h, fun b b' x x' c t t' h => by simp [lookB] at h⟩, HpExt.refl _ _, fun c ⟨b, x, t, h, _⟩ => by simp [lookB] at h,
    ⟨hb.os, hb.tape, hb.output, hb.size, fun k hk _ => hb.block k hk⟩, fun _ h => h, fun b h => Nat.lt_of_lt_of_le (hS b h) hb.size, fun b h _ => .inl h⟩
theorem join_nil (l : List (List UInt8)) : Lib.join l [] = l.flatten := by
  cases l with
  | nil => rfl
  | cons x r => rw [Lib.join_cons]; simp [Lib.joinTail]
/-- A row of texts. -/
def tR (l : List (List UInt8)) : Nat → D := fun i => .str (l.getD i [])
theorem strings_Join (l : List (List UInt8)) (h : l.length ≤ 140737488355328) (hl : l.flatten.length ≤ 140737488355328) : C E 40 [.ro false 1 l.length (tR l), .str []] (.str l.flatten) := by
  refine C.of_calls (by kernel_rfl) (fun S w vs hS hv => ?_) (fun φ S w vs hv => ?_)
  · simp only [RepVs, RepV, Rep0] at hv
    obtain ⟨v, vs', rfl, ⟨a, cap, rfl, hn, hc, hr⟩, v2, vs'', rfl, rfl, rfl⟩ := hv
    by_cases h0 : l = []
    · subst h0
      refine (Tryd.strings_Join_none a cap _ w).mono ?_
      rintro e w' ⟨rfl, rfl⟩
      exact ⟨_, rfl, fun S w => rfl, Below.refl _ _⟩
    · obtain ⟨b, o, rfl, hb, hr⟩ := hr (List.length_pos_iff.2 h0)
      have hj : Lib.join ((l.map fun x => (⟨x.toArray⟩ : ByteArray)).map (·.data.toList)) [] = l.flatten := by
        rw [join_nil, List.map_map]
        congr 1
        exact List.map_id'' (fun x => rfl) l
      have := Tryd.strings_Join b o cap (l.map fun x => ⟨x.toArray⟩) ⟨[].toArray⟩ w ?_ (hS b hb) (by simpa using h) (by simpa using hn) (by rw [hj]; exact hl)
      · rw [List.length_map] at this
        refine this.mono ?_
        rintro e w' ⟨rfl, hw⟩
        exact ⟨_, rfl, fun S w => by rw [hj]; rfl, hw⟩
      · intro j x hx
        rw [List.getElem?_map, Option.map_eq_some_iff] at hx
        obtain ⟨y, hy, rfl⟩ := hx
        have hlt := (List.getElem?_eq_some_iff.1 hy).1
        obtain ⟨x, vs, hl1, hat, hce, hre⟩ := hr j hlt
        simp only [Cells, if_false, Bool.false_eq_true] at hce
        subst hce
        have := (hat 0 x rfl).1
        simp only [Nat.mul_one, Nat.add_zero] at this
        rw [this]
        simp only [tR, Rep0, List.getD_eq_getElem?_getD, hy, Option.getD_some] at hre
        rw [hre]
  · simpa only [RepVs, RepV] using hv
/-- A row, cell by cell the same. -/
theorem LesV_row {ag : Bool} {sz n : Nat} {f g : Nat → D} (h : ∀ i, i < n → f i = g i) : LesV [.ro ag sz n f] [.ro ag sz n g] := by
  intro H φ S w vs hv
  simp only [RepVs, RepV, Rep0] at hv ⊢
  obtain ⟨v, vs', rfl, ⟨a, cap, rfl, h1, h2, h3⟩, h4⟩ := hv
  refine ⟨_, vs', rfl, ⟨a, cap, rfl, h1, h2, fun hn => ?_⟩, h4⟩
  obtain ⟨b, o, h5, h6, h7⟩ := h3 hn
  exact ⟨b, o, h5, h6, fun i hi => by rw [← h i hi]; exact h7 i hi⟩
end Go.Proofs.YtpobbfhdkbnpmaaDoor.Lv
