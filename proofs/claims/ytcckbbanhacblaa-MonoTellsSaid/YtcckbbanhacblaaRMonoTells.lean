/-
  MonoTells: for every input that the row lets in the law answers true, and its arguments read as before. No condition.
  The frame is the guide's, printed by a program of this claim's; the contract comes out of the walk in the texts beside it.
-/
import Derived.Test.YtcckbbanhacblaaRA
import Derived.Test.YtcckbbanhacblaaMJ
import Derived.WalkKit
import Derived.ProofKit
import Derived.OpenShut
import Derived.ShutString
import Derived.ChangeOld
import Derived.Below

set_option linter.unusedVariables false
set_option linter.unusedSimpArgs false
set_option maxRecDepth 100000
set_option maxHeartbeats 4000000
namespace Go.Proofs.Ytcckbbanhacblaa.monoTells
open Go.ChangeShapes Go.WideShapes Go.ChangeAt Go.RowKit Go.Proofs.Ytcckbbanhacblaa.Lv

theorem own : ownKnob Try.prog.godebug = none := by kernel_rfl
theorem laidOut : laidOutB Try.prog = true := by kernel_rfl
abbrev s0 : Sh := (.st (.cons (.int .u8) (.cons (.int .u8) (.cons (.int .u8) .nil))))
abbrev s1 : Sh := (.st (.cons (.int .u8) (.cons (.int .u8) (.cons (.int .u8) .nil))))
theorem contract (y0 : Sh.T s0) (w0 : Sh.wf s0 y0) (y1 : Sh.T s1) (w1 : Sh.wf s1 y1) : C E 4 [Sh.d s0 y0, Sh.d s1 y1] (.bool true) := by
  obtain ⟨a, b, c, ⟨⟩⟩ := y0
  obtain ⟨a', b', c', ⟨⟩⟩ := y1
  obtain ⟨h1, h2, h3, _⟩ := w0
  obtain ⟨h4, h5, h6, _⟩ := w1
  obtain ⟨a, ha, rfl⟩ := nat_u8 h1
  obtain ⟨b, hb, rfl⟩ := nat_u8 h2
  obtain ⟨c, hc, rfl⟩ := nat_u8 h3
  obtain ⟨a', ha', rfl⟩ := nat_u8 h4
  obtain ⟨b', hb', rfl⟩ := nat_u8 h5
  obtain ⟨c', hc', rfl⟩ := nat_u8 h6
  exact law_MonoTells ha hb hc ha' hb' hc'

theorem step (H : Type) (enc : TypeId × Value → H) (W : World) (base : Nat) (args : Array Value) (ds gs : List (DataW H)) (before : List MemPlace)
    (hval0 : ∀ (j : Nat) t v, Try.f4.params[j]? = some t → args[j]? = some v → Value.okWide Try.prog W .any base t v)
    (hW : DataW.Whole enc Try.prog Try.f4.params.toList Rows.monoTellsSpec.vars false W args.toList ds gs before) :
    Calls Try.prog 4 args W fun e W' => ∃ v, e = .returned v ∧ Rows.monoTellsSpec.post enc Try.prog Try.f4 false true false false W args v W' := by
  have hval := hval0
  have hW' := hW
  obtain ⟨p, q, hA0, hV, rfl, hfz, hnd⟩ := hW
  have hA : DataW.TrodAll enc Try.prog W 0 (fun _ => true) true Try.f4.params.toList args.toList ds p := hA0
  rw [Try.params4] at hA hval
  obtain ⟨v0, vs0, d0, ds0, p0, q0, hargs, rfl, rfl, h0, r0⟩ := trodAll_cons hA
  obtain ⟨v1, vs1, d1, ds1, p1, q1, rfl, rfl, rfl, h1, r1⟩ := trodAll_cons r0
  obtain ⟨rfl, rfl, rfl⟩ := trodAll_nil r1
  obtain rfl : args = #[v0, v1] := by cases args; simp_all
  obtain ⟨rfl, rfl⟩ := trodVars_none hV
  have lt0 : ∀ x ∈ p0, x.block < W.heap.size := by obtain ⟨m, hm⟩ := h0; exact DataW.trod_lt m _ _ _ hm
  obtain ⟨y0, w0, e0, b0⟩ := read_arg s0 23 (by kernel_rfl) (hval 0 23 v0 rfl rfl) h0
  have lt1 : ∀ x ∈ p1, x.block < W.heap.size := by obtain ⟨m, hm⟩ := h1; exact DataW.trod_lt m _ _ _ hm
  obtain ⟨y1, w1, e1, b1⟩ := read_arg s1 23 (by kernel_rfl) (hval 1 23 v1 rfl rfl) h1
  clear hA0 hval0
  simp only [List.append_nil] at hW'
  refine (law_calls (contract y0 w0 y1 w1) ⟨_, _, rfl, e0, ⟨_, _, rfl, e1, rfl⟩⟩).mono fun e W' ⟨he, bel⟩ => ?_
  subst he
  exact ⟨_, rfl, _, _, _, [], _, [], hW', trodAll_mk1 (shut_bool Try.underlying4 _), (trodAll_cons_mk (Below.trod laidOut (by kernel_rfl) (of_decide_eq_true (by kernel_rfl)) h0 bel lt0) (trodAll_cons_mk (Below.trod laidOut (by kernel_rfl) (of_decide_eq_true (by kernel_rfl)) h1 bel lt1) trodAll_mk0)), rfl, bel.frame _, fun h => by cases h⟩

theorem lifted (os : Os) (started : os.Started) (H : Type) (enc : TypeId × Value → H) :
    ReturnsInHanded {} Try.checked os 4 .any (Rows.monoTellsSpec.pre6 enc Try.prog Try.f4 Rows.monoTellsRow.domain false) (Rows.monoTellsSpec.post enc Try.prog Try.f4 false true false false) := by
  refine returnsInHanded_of_change (C := Try.checked) own started (by kernel_rfl) Try.func4
    (ChangeSpec.witness6 (enc := enc) (C := Try.checked) false ⟨#[], #[.agg #[.int .u8 0, .int .u8 0, .int .u8 0], .agg #[.int .u8 0, .int .u8 0, .int .u8 0]], []⟩ 8 (by kernel_rfl) (by kernel_rfl) (by kernel_rfl) (by kernel_rfl)) ?_
  intro W base args ds gs before hval0 hW hcnd _
  exact step H enc W base args ds gs before hval0 hW

theorem over : Rows.monoTellsRow.holds Try.pinned (OpenSpec.ofChange Rows.monoTellsSpec) :=
  OpenClaim.holds_of_wide 4 Try.f4 rfl rfl rfl rfl rfl rfl rfl ⟨rfl, rfl, rfl, rfl, rfl⟩ rfl rfl rfl rfl rfl (by kernel_rfl) Try.func4 (by kernel_rfl)
    (of_decide_eq_true (by kernel_rfl)) (by unfold Func.isWrapper; first | (rw [if_pos (by decide +kernel)]; kernel_rfl) | (rw [if_neg (by decide +kernel)]; exact ⟨rfl, rfl⟩))
    (fun os started H enc _ => lifted os started H enc)

theorem proved : Rows.MonoTellsSaid := over
end Go.Proofs.Ytcckbbanhacblaa.monoTells
