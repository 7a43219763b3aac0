/-
  No cell of these rows narrows 'for every input' (looked for: loops, veiled, ifaces, maps, wideKeys, modest, calm, conditions, laid).
  DERIVED. THE GIVEN ROWS OF THIS SEAT. 5 by the template 'for every input the law returns true; each argument reads behind the call as it read before'; 0 by the template 'total and deterministic' (their statements: YtcckbbanhacblaaTotals.lean).
  GIVEN WITH THE SEED: the statements are not yours to turn. If you find one false, say at which input.
  Laid BY PROGRAM, IN A SANDBOX (cutbox-rows.mjs): the forced cells as the released guide's own fill.sh prints them over the translation 137e41a99963faa6… (all of the seat's roots in one cut). By AI agents, Wed Nov 11 2026. No macro, syntax, notation, axiom, sorry.
-/
import Derived.Test.YtcckbbanhacblaaChecked
import GoSem.Claim
import GoSem.ClaimJoined
import GoSem.ClaimMapViews
import Derived.JoinedTies
import Derived.KernelRfl
namespace Go.Proofs.Ytcckbbanhacblaa
/- THE CELL 'sum', in the pinned program and in every row, IS THE sha256 OF THE DUMP (.gsa) THAT YtcckbbanhacblaaProg.lean LOADS. Nothing in Lean hashes anything: it is a label: what it is worth is what the hold of that sum in a sandbox is worth. -/
noncomputable def Try.pinned : Pinned := { name := "ytcckbbanhacblaa", sum := "137e41a99963faa6cf649c3ea23a897139763718ffcddfbf30a5905dc945f819", checked := Try.checked }
namespace Rows
def none {H : Type} : Left H := { results := [], args := [] }

/-- 'cincturelaw7.MonoOrders': WHATEVER THE INPUT: true; the input reads as it did. -/
def monoOrdersSpec : ChangeSpec := { name := "monoOrders", fn := fun _ => fun
  | [d1, d2, d3] => { results := [.lit (.bool true)], args := [d1, d2, d3] }
  | _ => none }
def monoOrdersRow : OpenClaim := { program := "ytcckbbanhacblaa", sum := "137e41a99963faa6cf649c3ea23a897139763718ffcddfbf30a5905dc945f819", func := "cincture/cincturelaw7.MonoOrders", spec := "monoOrders", apart := false }
def MonoOrdersSaid : Prop := monoOrdersRow.holds Try.pinned (OpenSpec.ofChange monoOrdersSpec)

/-- ITS FALSE NEIGHBOUR: 'it returns false'. Refute it at one input. -/
def monoOrdersWrong : ChangeSpec := { name := "monoOrders", fn := fun _ => fun
  | [d1, d2, d3] => { results := [.lit (.bool false)], args := [d1, d2, d3] }
  | _ => none }
def MonoOrdersWrongFalsely : Prop := monoOrdersRow.holds Try.pinned (OpenSpec.ofChange monoOrdersWrong)

/-- 'cincturelaw7.MonoTells': WHATEVER THE INPUT: true; the input reads as it did. -/
def monoTellsSpec : ChangeSpec := { name := "monoTells", fn := fun _ => fun
  | [d1, d2] => { results := [.lit (.bool true)], args := [d1, d2] }
  | _ => none }
def monoTellsRow : OpenClaim := { program := "ytcckbbanhacblaa", sum := "137e41a99963faa6cf649c3ea23a897139763718ffcddfbf30a5905dc945f819", func := "cincture/cincturelaw7.MonoTells", spec := "monoTells", unfollowed := true, recurses := true, apart := false }
def MonoTellsSaid : Prop := monoTellsRow.holds Try.pinned (OpenSpec.ofChange monoTellsSpec)

/-- ITS FALSE NEIGHBOUR: 'it returns false'. Refute it at one input. -/
def monoTellsWrong : ChangeSpec := { name := "monoTells", fn := fun _ => fun
  | [d1, d2] => { results := [.lit (.bool false)], args := [d1, d2] }
  | _ => none }
def MonoTellsWrongFalsely : Prop := monoTellsRow.holds Try.pinned (OpenSpec.ofChange monoTellsWrong)

/-- 'cincturelaw7.MonoMuls': WHATEVER THE INPUT: true; the input reads as it did. -/
def monoMulsSpec : ChangeSpec := { name := "monoMuls", fn := fun _ => fun
  | [d1, d2, d3] => { results := [.lit (.bool true)], args := [d1, d2, d3] }
  | _ => none }
def monoMulsRow : OpenClaim := { program := "ytcckbbanhacblaa", sum := "137e41a99963faa6cf649c3ea23a897139763718ffcddfbf30a5905dc945f819", func := "cincture/cincturelaw7.MonoMuls", spec := "monoMuls", unfollowed := true, recurses := true, apart := false }
def MonoMulsSaid : Prop := monoMulsRow.holds Try.pinned (OpenSpec.ofChange monoMulsSpec)

/-- ITS FALSE NEIGHBOUR: 'it returns false'. Refute it at one input. -/
def monoMulsWrong : ChangeSpec := { name := "monoMuls", fn := fun _ => fun
  | [d1, d2, d3] => { results := [.lit (.bool false)], args := [d1, d2, d3] }
  | _ => none }
def MonoMulsWrongFalsely : Prop := monoMulsRow.holds Try.pinned (OpenSpec.ofChange monoMulsWrong)

/-- 'cincturelaw7.MonoBelow': WHATEVER THE INPUT: true; the input reads as it did. -/
def monoBelowSpec : ChangeSpec := { name := "monoBelow", fn := fun _ => fun
  | [d1, d2] => { results := [.lit (.bool true)], args := [d1, d2] }
  | _ => none }
def monoBelowRow : OpenClaim := { program := "ytcckbbanhacblaa", sum := "137e41a99963faa6cf649c3ea23a897139763718ffcddfbf30a5905dc945f819", func := "cincture/cincturelaw7.MonoBelow", spec := "monoBelow", unfollowed := true, recurses := true, apart := false }
def MonoBelowSaid : Prop := monoBelowRow.holds Try.pinned (OpenSpec.ofChange monoBelowSpec)

/-- ITS FALSE NEIGHBOUR: 'it returns false'. Refute it at one input. -/
def monoBelowWrong : ChangeSpec := { name := "monoBelow", fn := fun _ => fun
  | [d1, d2] => { results := [.lit (.bool false)], args := [d1, d2] }
  | _ => none }
def MonoBelowWrongFalsely : Prop := monoBelowRow.holds Try.pinned (OpenSpec.ofChange monoBelowWrong)

/-- 'cincturelaw7.MonoMore': WHATEVER THE INPUT: true; the input reads as it did. -/
def monoMoreSpec : ChangeSpec := { name := "monoMore", fn := fun _ => fun
  | [d1, d2] => { results := [.lit (.bool true)], args := [d1, d2] }
  | _ => none }
def monoMoreRow : OpenClaim := { program := "ytcckbbanhacblaa", sum := "137e41a99963faa6cf649c3ea23a897139763718ffcddfbf30a5905dc945f819", func := "cincture/cincturelaw7.MonoMore", spec := "monoMore", unfollowed := true, recurses := true, apart := false }
def MonoMoreSaid : Prop := monoMoreRow.holds Try.pinned (OpenSpec.ofChange monoMoreSpec)

/-- ITS FALSE NEIGHBOUR: 'it returns false'. Refute it at one input. -/
def monoMoreWrong : ChangeSpec := { name := "monoMore", fn := fun _ => fun
  | [d1, d2] => { results := [.lit (.bool false)], args := [d1, d2] }
  | _ => none }
def MonoMoreWrongFalsely : Prop := monoMoreRow.holds Try.pinned (OpenSpec.ofChange monoMoreWrong)

/- THE SECOND FORM. 'bulk': how many values and letters a reading holds, each counted each time it is reached (what is shared counts as often as it is met; a slice's spare places count too). A statement '..UptoSaid' is the law's where the arguments, and the package variables that the reading takes, are together of bulk at most 1048576: NARROWER than '..Said'. Prove '..Said' where nothing that the law and all that it calls make is longer than what came in: it says more and counts as full. Else prove '..UptoSaid'. A law counts once. -/
mutual
def uptoBulk {H : Type} : DataW H → Nat
  | .lit (.string bytes) => bytes.length + 1
  | .lit _ => 1
  | .nil => 1
  | .ptr d => uptoBulk d + 1
  | .slice elems spare => uptoBulkAll elems + uptoBulkAll spare + 1
  | .agg parts => uptoBulkAll parts + 1
  | .iface _ d => uptoBulk d + 1
  | .map entries => uptoBulkEntries entries + 1
  | .held _ => 1
def uptoBulkAll {H : Type} : List (DataW H) → Nat
  | [] => 0
  | d :: r => uptoBulk d + uptoBulkAll r
def uptoBulkEntries {H : Type} : List (Lit × DataW H) → Nat
  | [] => 0
  | x :: r => uptoBulkEntry x + uptoBulkEntries r
def uptoBulkEntry {H : Type} : Lit × DataW H → Nat
  | (.string bytes, d) => bytes.length + uptoBulk d + 1
  | (_, d) => uptoBulk d + 1
 end
def uptoSmall : (H : Type) → List (DataW H) → Bool := fun _ ds => decide (uptoBulkAll ds ≤ 1048576)
def OpenSpec.upto (s : _root_.Go.ChangeSpec) : _root_.Go.OpenSpec := { _root_.Go.OpenSpec.ofChange s with cond := some uptoSmall }

/-- 'cincturelaw7.MonoOrders', WHERE WHAT IT READS IS OF BULK AT MOST 1048576: true; the input reads as it did. -/
def monoOrdersUptoRow : OpenClaim := { program := "ytcckbbanhacblaa", sum := "137e41a99963faa6cf649c3ea23a897139763718ffcddfbf30a5905dc945f819", func := "cincture/cincturelaw7.MonoOrders", spec := "monoOrders", apart := false, narrowed := true }
def MonoOrdersUptoSaid : Prop := monoOrdersUptoRow.holds Try.pinned (OpenSpec.upto monoOrdersSpec)

/-- 'cincturelaw7.MonoTells', WHERE WHAT IT READS IS OF BULK AT MOST 1048576: true; the input reads as it did. -/
def monoTellsUptoRow : OpenClaim := { program := "ytcckbbanhacblaa", sum := "137e41a99963faa6cf649c3ea23a897139763718ffcddfbf30a5905dc945f819", func := "cincture/cincturelaw7.MonoTells", spec := "monoTells", unfollowed := true, recurses := true, apart := false, narrowed := true }
def MonoTellsUptoSaid : Prop := monoTellsUptoRow.holds Try.pinned (OpenSpec.upto monoTellsSpec)

/-- 'cincturelaw7.MonoMuls', WHERE WHAT IT READS IS OF BULK AT MOST 1048576: true; the input reads as it did. -/
def monoMulsUptoRow : OpenClaim := { program := "ytcckbbanhacblaa", sum := "137e41a99963faa6cf649c3ea23a897139763718ffcddfbf30a5905dc945f819", func := "cincture/cincturelaw7.MonoMuls", spec := "monoMuls", unfollowed := true, recurses := true, apart := false, narrowed := true }
def MonoMulsUptoSaid : Prop := monoMulsUptoRow.holds Try.pinned (OpenSpec.upto monoMulsSpec)

/-- 'cincturelaw7.MonoBelow', WHERE WHAT IT READS IS OF BULK AT MOST 1048576: true; the input reads as it did. -/
def monoBelowUptoRow : OpenClaim := { program := "ytcckbbanhacblaa", sum := "137e41a99963faa6cf649c3ea23a897139763718ffcddfbf30a5905dc945f819", func := "cincture/cincturelaw7.MonoBelow", spec := "monoBelow", unfollowed := true, recurses := true, apart := false, narrowed := true }
def MonoBelowUptoSaid : Prop := monoBelowUptoRow.holds Try.pinned (OpenSpec.upto monoBelowSpec)

/-- 'cincturelaw7.MonoMore', WHERE WHAT IT READS IS OF BULK AT MOST 1048576: true; the input reads as it did. -/
def monoMoreUptoRow : OpenClaim := { program := "ytcckbbanhacblaa", sum := "137e41a99963faa6cf649c3ea23a897139763718ffcddfbf30a5905dc945f819", func := "cincture/cincturelaw7.MonoMore", spec := "monoMore", unfollowed := true, recurses := true, apart := false, narrowed := true }
def MonoMoreUptoSaid : Prop := monoMoreUptoRow.holds Try.pinned (OpenSpec.upto monoMoreSpec)

end Rows
end Go.Proofs.Ytcckbbanhacblaa
