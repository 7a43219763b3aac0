/-
  NARROWER THAN 'FOR EVERY INPUT', by the rows' own cells (each row's printed sentence says how): ClaimFields: laid · ClaimTells: laid · ClaimBoxes: laid · ClaimPolys: laid · ClaimReads: laid · ClaimBack: laid · ClaimOnce: laid · ClaimCuts: laid · ClaimLimits: laid.
  DERIVED. THE GIVEN ROWS OF THIS SEAT. 9 by the template 'for every input the law returns true; each argument reads behind the call as it read before'; 0 by the template 'total and deterministic' (their statements: YtakaojkfipnfcaaGreatDoorTotals.lean).
  GIVEN WITH THE SEED: the statements are not yours to turn. If you find one false, say at which input.
  Laid BY PROGRAM, IN A SANDBOX (cutbox-rows.mjs): the forced cells as the released guide's own fill.sh prints them over the translation 26056bc65dc9681b… (all of the seat's roots in one cut). By AI agents, Wed Nov 11 2026. No macro, syntax, notation, axiom, sorry.
-/
import Derived.Test.YtakaojkfipnfcaaGreatDoorChecked
import GoSem.Claim
import GoSem.ClaimJoined
import GoSem.ClaimMapViews
import Derived.JoinedTies
import Derived.KernelRfl
namespace Go.Proofs.YtakaojkfipnfcaaGreatDoor
/- THE CELL 'sum', in the pinned program and in every row, IS THE sha256 OF THE DUMP (.gsa) THAT YtakaojkfipnfcaaGreatDoorProg.lean LOADS. Nothing in Lean hashes anything: it is a label: what it is worth is what the hold of that sum in a sandbox is worth. -/
noncomputable def Tryz.pinned : Pinned := { name := "ytakaojkfipnfcaagreatdoor", sum := "26056bc65dc9681ba1f125c83a2e492fdd51019ad231540f061d22aafe25b19f", checked := Tryz.checked }
namespace Rows
def none {H : Type} : Left H := { results := [], args := [] }

/- WHAT THE LISTED PACKAGE-LEVEL VARIABLES READ AS WHEN THE CALL BEGINS. Each datum BY PROGRAM (the guide's laid-datum.mjs) off the statement by which the dump's own 'gosem.cut.vars' lays the variable. In a bare row this is a premise. The card (YtakaojkfipnfcaaGreatDoorCards.lean) ties it to the program's text. -/
def laid_math_bits_deBruijn32tab {H : Type} : DataW H := .agg [.lit (.int .u8 0), .lit (.int .u8 1), .lit (.int .u8 28), .lit (.int .u8 2), .lit (.int .u8 29), .lit (.int .u8 14), .lit (.int .u8 24), .lit (.int .u8 3), .lit (.int .u8 30), .lit (.int .u8 22), .lit (.int .u8 20), .lit (.int .u8 15), .lit (.int .u8 25), .lit (.int .u8 17), .lit (.int .u8 4), .lit (.int .u8 8), .lit (.int .u8 31), .lit (.int .u8 27), .lit (.int .u8 13), .lit (.int .u8 23), .lit (.int .u8 21), .lit (.int .u8 19), .lit (.int .u8 16), .lit (.int .u8 7), .lit (.int .u8 26), .lit (.int .u8 12), .lit (.int .u8 18), .lit (.int .u8 6), .lit (.int .u8 11), .lit (.int .u8 5), .lit (.int .u8 10), .lit (.int .u8 9)]

/-- 'cincturelaw19.ClaimFields': WHATEVER THE INPUT: true; the input reads as it did. -/
def claimFieldsSpec : ChangeSpec := { name := "claimFields", fn := fun _ => fun
  | [d1, d2] => { results := [.lit (.bool true)], args := [d1, d2] }
  | _ => none }
def claimFieldsRow : OpenClaim := { program := "ytakaojkfipnfcaagreatdoor", sum := "26056bc65dc9681ba1f125c83a2e492fdd51019ad231540f061d22aafe25b19f", func := "cincture/cincturelaw19.ClaimFields", spec := "claimFields", inPlace := ["internal/bytealg.IndexByteString", "internal/bytealg.IndexString", "internal/abi.NoEscape"], unfollowed := true, recurses := true, named := ["internal/bytealg.MaxLen", "math/bits.deBruijn32tab"], apart := false, laid := [("math/bits.deBruijn32tab", laid_math_bits_deBruijn32tab)] }
def ClaimFieldsSaid : Prop := claimFieldsRow.holds Tryz.pinned (OpenSpec.ofChange claimFieldsSpec)

/-- ITS FALSE NEIGHBOUR: 'it returns false'. Refute it at one input. -/
def claimFieldsWrong : ChangeSpec := { name := "claimFields", fn := fun _ => fun
  | [d1, d2] => { results := [.lit (.bool false)], args := [d1, d2] }
  | _ => none }
def ClaimFieldsWrongFalsely : Prop := claimFieldsRow.holds Tryz.pinned (OpenSpec.ofChange claimFieldsWrong)

/-- 'cincturelaw19.ClaimTells': WHATEVER THE INPUT: true; the input reads as it did. -/
def claimTellsSpec : ChangeSpec := { name := "claimTells", fn := fun _ => fun
  | [d] => { results := [.lit (.bool true)], args := [d] }
  | _ => none }
def claimTellsRow : OpenClaim := { program := "ytakaojkfipnfcaagreatdoor", sum := "26056bc65dc9681ba1f125c83a2e492fdd51019ad231540f061d22aafe25b19f", func := "cincture/cincturelaw19.ClaimTells", spec := "claimTells", inPlace := ["internal/bytealg.IndexByteString", "internal/bytealg.IndexString", "internal/abi.NoEscape"], unfollowed := true, recurses := true, named := ["internal/bytealg.MaxLen", "math/bits.deBruijn32tab"], apart := false, laid := [("math/bits.deBruijn32tab", laid_math_bits_deBruijn32tab)] }
def ClaimTellsSaid : Prop := claimTellsRow.holds Tryz.pinned (OpenSpec.ofChange claimTellsSpec)

/-- ITS FALSE NEIGHBOUR: 'it returns false'. Refute it at one input. -/
def claimTellsWrong : ChangeSpec := { name := "claimTells", fn := fun _ => fun
  | [d] => { results := [.lit (.bool false)], args := [d] }
  | _ => none }
def ClaimTellsWrongFalsely : Prop := claimTellsRow.holds Tryz.pinned (OpenSpec.ofChange claimTellsWrong)

/-- 'cincturelaw19.ClaimBoxes': WHATEVER THE INPUT: true; the input reads as it did. -/
def claimBoxesSpec : ChangeSpec := { name := "claimBoxes", fn := fun _ => fun
  | [d1, d2, d3, d4, d5] => { results := [.lit (.bool true)], args := [d1, d2, d3, d4, d5] }
  | _ => none }
def claimBoxesRow : OpenClaim := { program := "ytakaojkfipnfcaagreatdoor", sum := "26056bc65dc9681ba1f125c83a2e492fdd51019ad231540f061d22aafe25b19f", func := "cincture/cincturelaw19.ClaimBoxes", spec := "claimBoxes", inPlace := ["internal/bytealg.IndexByteString", "internal/bytealg.IndexString", "internal/abi.NoEscape"], unfollowed := true, recurses := true, named := ["internal/bytealg.MaxLen", "math/bits.deBruijn32tab"], apart := false, laid := [("math/bits.deBruijn32tab", laid_math_bits_deBruijn32tab)] }
def ClaimBoxesSaid : Prop := claimBoxesRow.holds Tryz.pinned (OpenSpec.ofChange claimBoxesSpec)

/-- ITS FALSE NEIGHBOUR: 'it returns false'. Refute it at one input. -/
def claimBoxesWrong : ChangeSpec := { name := "claimBoxes", fn := fun _ => fun
  | [d1, d2, d3, d4, d5] => { results := [.lit (.bool false)], args := [d1, d2, d3, d4, d5] }
  | _ => none }
def ClaimBoxesWrongFalsely : Prop := claimBoxesRow.holds Tryz.pinned (OpenSpec.ofChange claimBoxesWrong)

/-- 'cincturelaw19.ClaimPolys': WHATEVER THE INPUT: true; the input reads as it did. -/
def claimPolysSpec : ChangeSpec := { name := "claimPolys", fn := fun _ => fun
  | [d1, d2, d3, d4] => { results := [.lit (.bool true)], args := [d1, d2, d3, d4] }
  | _ => none }
def claimPolysRow : OpenClaim := { program := "ytakaojkfipnfcaagreatdoor", sum := "26056bc65dc9681ba1f125c83a2e492fdd51019ad231540f061d22aafe25b19f", func := "cincture/cincturelaw19.ClaimPolys", spec := "claimPolys", inPlace := ["internal/bytealg.IndexByteString", "internal/bytealg.IndexString", "internal/abi.NoEscape"], unfollowed := true, recurses := true, named := ["internal/bytealg.MaxLen", "math/bits.deBruijn32tab"], apart := false, laid := [("math/bits.deBruijn32tab", laid_math_bits_deBruijn32tab)] }
def ClaimPolysSaid : Prop := claimPolysRow.holds Tryz.pinned (OpenSpec.ofChange claimPolysSpec)

/-- ITS FALSE NEIGHBOUR: 'it returns false'. Refute it at one input. -/
def claimPolysWrong : ChangeSpec := { name := "claimPolys", fn := fun _ => fun
  | [d1, d2, d3, d4] => { results := [.lit (.bool false)], args := [d1, d2, d3, d4] }
  | _ => none }
def ClaimPolysWrongFalsely : Prop := claimPolysRow.holds Tryz.pinned (OpenSpec.ofChange claimPolysWrong)

/-- 'cincturelaw19.ClaimReads': WHATEVER THE INPUT: true; the input reads as it did. -/
def claimReadsSpec : ChangeSpec := { name := "claimReads", fn := fun _ => fun
  | [d1, d2, d3] => { results := [.lit (.bool true)], args := [d1, d2, d3] }
  | _ => none }
def claimReadsRow : OpenClaim := { program := "ytakaojkfipnfcaagreatdoor", sum := "26056bc65dc9681ba1f125c83a2e492fdd51019ad231540f061d22aafe25b19f", func := "cincture/cincturelaw19.ClaimReads", spec := "claimReads", inPlace := ["internal/bytealg.IndexByteString", "internal/bytealg.IndexString", "internal/abi.NoEscape"], unfollowed := true, recurses := true, named := ["internal/bytealg.MaxLen", "math/bits.deBruijn32tab"], apart := false, laid := [("math/bits.deBruijn32tab", laid_math_bits_deBruijn32tab)] }
def ClaimReadsSaid : Prop := claimReadsRow.holds Tryz.pinned (OpenSpec.ofChange claimReadsSpec)

/-- ITS FALSE NEIGHBOUR: 'it returns false'. Refute it at one input. -/
def claimReadsWrong : ChangeSpec := { name := "claimReads", fn := fun _ => fun
  | [d1, d2, d3] => { results := [.lit (.bool false)], args := [d1, d2, d3] }
  | _ => none }
def ClaimReadsWrongFalsely : Prop := claimReadsRow.holds Tryz.pinned (OpenSpec.ofChange claimReadsWrong)

/-- 'cincturelaw19.ClaimBack': WHATEVER THE INPUT: true; the input reads as it did. -/
def claimBackSpec : ChangeSpec := { name := "claimBack", fn := fun _ => fun
  | [d1, d2, d3] => { results := [.lit (.bool true)], args := [d1, d2, d3] }
  | _ => none }
def claimBackRow : OpenClaim := { program := "ytakaojkfipnfcaagreatdoor", sum := "26056bc65dc9681ba1f125c83a2e492fdd51019ad231540f061d22aafe25b19f", func := "cincture/cincturelaw19.ClaimBack", spec := "claimBack", inPlace := ["internal/bytealg.IndexByteString", "internal/bytealg.IndexString", "internal/abi.NoEscape"], unfollowed := true, recurses := true, named := ["internal/bytealg.MaxLen", "math/bits.deBruijn32tab"], apart := false, laid := [("math/bits.deBruijn32tab", laid_math_bits_deBruijn32tab)] }
def ClaimBackSaid : Prop := claimBackRow.holds Tryz.pinned (OpenSpec.ofChange claimBackSpec)

/-- ITS FALSE NEIGHBOUR: 'it returns false'. Refute it at one input. -/
def claimBackWrong : ChangeSpec := { name := "claimBack", fn := fun _ => fun
  | [d1, d2, d3] => { results := [.lit (.bool false)], args := [d1, d2, d3] }
  | _ => none }
def ClaimBackWrongFalsely : Prop := claimBackRow.holds Tryz.pinned (OpenSpec.ofChange claimBackWrong)

/-- 'cincturelaw19.ClaimOnce': WHATEVER THE INPUT: true; the input reads as it did. -/
def claimOnceSpec : ChangeSpec := { name := "claimOnce", fn := fun _ => fun
  | [d1, d2, d3, d4] => { results := [.lit (.bool true)], args := [d1, d2, d3, d4] }
  | _ => none }
def claimOnceRow : OpenClaim := { program := "ytakaojkfipnfcaagreatdoor", sum := "26056bc65dc9681ba1f125c83a2e492fdd51019ad231540f061d22aafe25b19f", func := "cincture/cincturelaw19.ClaimOnce", spec := "claimOnce", inPlace := ["internal/bytealg.IndexByteString", "internal/bytealg.IndexString", "internal/abi.NoEscape"], unfollowed := true, recurses := true, named := ["internal/bytealg.MaxLen", "math/bits.deBruijn32tab"], apart := false, laid := [("math/bits.deBruijn32tab", laid_math_bits_deBruijn32tab)] }
def ClaimOnceSaid : Prop := claimOnceRow.holds Tryz.pinned (OpenSpec.ofChange claimOnceSpec)

/-- ITS FALSE NEIGHBOUR: 'it returns false'. Refute it at one input. -/
def claimOnceWrong : ChangeSpec := { name := "claimOnce", fn := fun _ => fun
  | [d1, d2, d3, d4] => { results := [.lit (.bool false)], args := [d1, d2, d3, d4] }
  | _ => none }
def ClaimOnceWrongFalsely : Prop := claimOnceRow.holds Tryz.pinned (OpenSpec.ofChange claimOnceWrong)

/-- 'cincturelaw19.ClaimCuts': WHATEVER THE INPUT: true; the input reads as it did. -/
def claimCutsSpec : ChangeSpec := { name := "claimCuts", fn := fun _ => fun
  | [d1, d2] => { results := [.lit (.bool true)], args := [d1, d2] }
  | _ => none }
def claimCutsRow : OpenClaim := { program := "ytakaojkfipnfcaagreatdoor", sum := "26056bc65dc9681ba1f125c83a2e492fdd51019ad231540f061d22aafe25b19f", func := "cincture/cincturelaw19.ClaimCuts", spec := "claimCuts", inPlace := ["internal/bytealg.IndexByteString", "internal/bytealg.IndexString", "internal/abi.NoEscape"], unfollowed := true, recurses := true, named := ["internal/bytealg.MaxLen", "math/bits.deBruijn32tab"], apart := false, laid := [("math/bits.deBruijn32tab", laid_math_bits_deBruijn32tab)] }
def ClaimCutsSaid : Prop := claimCutsRow.holds Tryz.pinned (OpenSpec.ofChange claimCutsSpec)

/-- ITS FALSE NEIGHBOUR: 'it returns false'. Refute it at one input. -/
def claimCutsWrong : ChangeSpec := { name := "claimCuts", fn := fun _ => fun
  | [d1, d2] => { results := [.lit (.bool false)], args := [d1, d2] }
  | _ => none }
def ClaimCutsWrongFalsely : Prop := claimCutsRow.holds Tryz.pinned (OpenSpec.ofChange claimCutsWrong)

/-- 'cincturelaw19.ClaimLimits': WHATEVER THE INPUT: true; the input reads as it did. -/
def claimLimitsSpec : ChangeSpec := { name := "claimLimits", fn := fun _ => fun
  | [d] => { results := [.lit (.bool true)], args := [d] }
  | _ => none }
def claimLimitsRow : OpenClaim := { program := "ytakaojkfipnfcaagreatdoor", sum := "26056bc65dc9681ba1f125c83a2e492fdd51019ad231540f061d22aafe25b19f", func := "cincture/cincturelaw19.ClaimLimits", spec := "claimLimits", inPlace := ["internal/bytealg.IndexByteString", "internal/bytealg.IndexString", "internal/abi.NoEscape"], unfollowed := true, recurses := true, named := ["internal/bytealg.MaxLen", "math/bits.deBruijn32tab"], apart := false, laid := [("math/bits.deBruijn32tab", laid_math_bits_deBruijn32tab)] }
def ClaimLimitsSaid : Prop := claimLimitsRow.holds Tryz.pinned (OpenSpec.ofChange claimLimitsSpec)

/-- ITS FALSE NEIGHBOUR: 'it returns false'. Refute it at one input. -/
def claimLimitsWrong : ChangeSpec := { name := "claimLimits", fn := fun _ => fun
  | [d] => { results := [.lit (.bool false)], args := [d] }
  | _ => none }
def ClaimLimitsWrongFalsely : Prop := claimLimitsRow.holds Tryz.pinned (OpenSpec.ofChange claimLimitsWrong)

/- THE SECOND FORM. 'bulk': how many values and letters a reading holds, each counted each time it is reached (what is shared counts as often as it is met; a slice's spare places count too). A statement '..UptoSaid' is the law's where the arguments, and the package variables that the reading takes, are together of bulk at most 1048576: NARROWER than '..Said'. Prove '..Said' where nothing that the law and all that it calls make is longer than what came in: it says more and counts as full. Else prove '..UptoSaid'. A law counts once. -/
mutual
def uptoBulk {H : Type} : DataW H → Nat
  | .lit (.string bytes) => bytes.length + 1
  | .lit _ => 1
  | .nil => 1
  | .ptr d => uptoBulk d + 1
  | .slice elems spare => uptoBulkAll elems + uptoBulkAll spare + 1
  | .agg parts => uptoBulkAll parts + 1
  | .iface _ d => uptoBulk d + 1
  | .map entries => uptoBulkEntries entries + 1
  | .held _ => 1
def uptoBulkAll {H : Type} : List (DataW H) → Nat
  | [] => 0
  | d :: r => uptoBulk d + uptoBulkAll r
def uptoBulkEntries {H : Type} : List (Lit × DataW H) → Nat
  | [] => 0
  | x :: r => uptoBulkEntry x + uptoBulkEntries r
def uptoBulkEntry {H : Type} : Lit × DataW H → Nat
  | (.string bytes, d) => bytes.length + uptoBulk d + 1
  | (_, d) => uptoBulk d + 1
 end
def uptoSmall : (H : Type) → List (DataW H) → Bool := fun _ ds => decide (uptoBulkAll ds ≤ 1048576)
def OpenSpec.upto (s : _root_.Go.ChangeSpec) : _root_.Go.OpenSpec := { _root_.Go.OpenSpec.ofChange s with cond := some uptoSmall }

/-- 'cincturelaw19.ClaimFields', WHERE WHAT IT READS IS OF BULK AT MOST 1048576: true; the input reads as it did. -/
def claimFieldsUptoRow : OpenClaim := { program := "ytakaojkfipnfcaagreatdoor", sum := "26056bc65dc9681ba1f125c83a2e492fdd51019ad231540f061d22aafe25b19f", func := "cincture/cincturelaw19.ClaimFields", spec := "claimFields", inPlace := ["internal/bytealg.IndexByteString", "internal/bytealg.IndexString", "internal/abi.NoEscape"], unfollowed := true, recurses := true, named := ["internal/bytealg.MaxLen", "math/bits.deBruijn32tab"], apart := false, laid := [("math/bits.deBruijn32tab", laid_math_bits_deBruijn32tab)], narrowed := true }
def ClaimFieldsUptoSaid : Prop := claimFieldsUptoRow.holds Tryz.pinned (OpenSpec.upto claimFieldsSpec)

/-- 'cincturelaw19.ClaimTells', WHERE WHAT IT READS IS OF BULK AT MOST 1048576: true; the input reads as it did. -/
def claimTellsUptoRow : OpenClaim := { program := "ytakaojkfipnfcaagreatdoor", sum := "26056bc65dc9681ba1f125c83a2e492fdd51019ad231540f061d22aafe25b19f", func := "cincture/cincturelaw19.ClaimTells", spec := "claimTells", inPlace := ["internal/bytealg.IndexByteString", "internal/bytealg.IndexString", "internal/abi.NoEscape"], unfollowed := true, recurses := true, named := ["internal/bytealg.MaxLen", "math/bits.deBruijn32tab"], apart := false, laid := [("math/bits.deBruijn32tab", laid_math_bits_deBruijn32tab)], narrowed := true }
def ClaimTellsUptoSaid : Prop := claimTellsUptoRow.holds Tryz.pinned (OpenSpec.upto claimTellsSpec)

/-- 'cincturelaw19.ClaimBoxes', WHERE WHAT IT READS IS OF BULK AT MOST 1048576: true; the input reads as it did. -/
def claimBoxesUptoRow : OpenClaim := { program := "ytakaojkfipnfcaagreatdoor", sum := "26056bc65dc9681ba1f125c83a2e492fdd51019ad231540f061d22aafe25b19f", func := "cincture/cincturelaw19.ClaimBoxes", spec := "claimBoxes", inPlace := ["internal/bytealg.IndexByteString", "internal/bytealg.IndexString", "internal/abi.NoEscape"], unfollowed := true, recurses := true, named := ["internal/bytealg.MaxLen", "math/bits.deBruijn32tab"], apart := false, laid := [("math/bits.deBruijn32tab", laid_math_bits_deBruijn32tab)], narrowed := true }
def ClaimBoxesUptoSaid : Prop := claimBoxesUptoRow.holds Tryz.pinned (OpenSpec.upto claimBoxesSpec)

/-- 'cincturelaw19.ClaimPolys', WHERE WHAT IT READS IS OF BULK AT MOST 1048576: true; the input reads as it did. -/
def claimPolysUptoRow : OpenClaim := { program := "ytakaojkfipnfcaagreatdoor", sum := "26056bc65dc9681ba1f125c83a2e492fdd51019ad231540f061d22aafe25b19f", func := "cincture/cincturelaw19.ClaimPolys", spec := "claimPolys", inPlace := ["internal/bytealg.IndexByteString", "internal/bytealg.IndexString", "internal/abi.NoEscape"], unfollowed := true, recurses := true, named := ["internal/bytealg.MaxLen", "math/bits.deBruijn32tab"], apart := false, laid := [("math/bits.deBruijn32tab", laid_math_bits_deBruijn32tab)], narrowed := true }
def ClaimPolysUptoSaid : Prop := claimPolysUptoRow.holds Tryz.pinned (OpenSpec.upto claimPolysSpec)

/-- 'cincturelaw19.ClaimReads', WHERE WHAT IT READS IS OF BULK AT MOST 1048576: true; the input reads as it did. -/
def claimReadsUptoRow : OpenClaim := { program := "ytakaojkfipnfcaagreatdoor", sum := "26056bc65dc9681ba1f125c83a2e492fdd51019ad231540f061d22aafe25b19f", func := "cincture/cincturelaw19.ClaimReads", spec := "claimReads", inPlace := ["internal/bytealg.IndexByteString", "internal/bytealg.IndexString", "internal/abi.NoEscape"], unfollowed := true, recurses := true, named := ["internal/bytealg.MaxLen", "math/bits.deBruijn32tab"], apart := false, laid := [("math/bits.deBruijn32tab", laid_math_bits_deBruijn32tab)], narrowed := true }
def ClaimReadsUptoSaid : Prop := claimReadsUptoRow.holds Tryz.pinned (OpenSpec.upto claimReadsSpec)

/-- 'cincturelaw19.ClaimBack', WHERE WHAT IT READS IS OF BULK AT MOST 1048576: true; the input reads as it did. -/
def claimBackUptoRow : OpenClaim := { program := "ytakaojkfipnfcaagreatdoor", sum := "26056bc65dc9681ba1f125c83a2e492fdd51019ad231540f061d22aafe25b19f", func := "cincture/cincturelaw19.ClaimBack", spec := "claimBack", inPlace := ["internal/bytealg.IndexByteString", "internal/bytealg.IndexString", "internal/abi.NoEscape"], unfollowed := true, recurses := true, named := ["internal/bytealg.MaxLen", "math/bits.deBruijn32tab"], apart := false, laid := [("math/bits.deBruijn32tab", laid_math_bits_deBruijn32tab)], narrowed := true }
def ClaimBackUptoSaid : Prop := claimBackUptoRow.holds Tryz.pinned (OpenSpec.upto claimBackSpec)

/-- 'cincturelaw19.ClaimOnce', WHERE WHAT IT READS IS OF BULK AT MOST 1048576: true; the input reads as it did. -/
def claimOnceUptoRow : OpenClaim := { program := "ytakaojkfipnfcaagreatdoor", sum := "26056bc65dc9681ba1f125c83a2e492fdd51019ad231540f061d22aafe25b19f", func := "cincture/cincturelaw19.ClaimOnce", spec := "claimOnce", inPlace := ["internal/bytealg.IndexByteString", "internal/bytealg.IndexString", "internal/abi.NoEscape"], unfollowed := true, recurses := true, named := ["internal/bytealg.MaxLen", "math/bits.deBruijn32tab"], apart := false, laid := [("math/bits.deBruijn32tab", laid_math_bits_deBruijn32tab)], narrowed := true }
def ClaimOnceUptoSaid : Prop := claimOnceUptoRow.holds Tryz.pinned (OpenSpec.upto claimOnceSpec)

/-- 'cincturelaw19.ClaimCuts', WHERE WHAT IT READS IS OF BULK AT MOST 1048576: true; the input reads as it did. -/
def claimCutsUptoRow : OpenClaim := { program := "ytakaojkfipnfcaagreatdoor", sum := "26056bc65dc9681ba1f125c83a2e492fdd51019ad231540f061d22aafe25b19f", func := "cincture/cincturelaw19.ClaimCuts", spec := "claimCuts", inPlace := ["internal/bytealg.IndexByteString", "internal/bytealg.IndexString", "internal/abi.NoEscape"], unfollowed := true, recurses := true, named := ["internal/bytealg.MaxLen", "math/bits.deBruijn32tab"], apart := false, laid := [("math/bits.deBruijn32tab", laid_math_bits_deBruijn32tab)], narrowed := true }
def ClaimCutsUptoSaid : Prop := claimCutsUptoRow.holds Tryz.pinned (OpenSpec.upto claimCutsSpec)

/-- 'cincturelaw19.ClaimLimits', WHERE WHAT IT READS IS OF BULK AT MOST 1048576: true; the input reads as it did. -/
def claimLimitsUptoRow : OpenClaim := { program := "ytakaojkfipnfcaagreatdoor", sum := "26056bc65dc9681ba1f125c83a2e492fdd51019ad231540f061d22aafe25b19f", func := "cincture/cincturelaw19.ClaimLimits", spec := "claimLimits", inPlace := ["internal/bytealg.IndexByteString", "internal/bytealg.IndexString", "internal/abi.NoEscape"], unfollowed := true, recurses := true, named := ["internal/bytealg.MaxLen", "math/bits.deBruijn32tab"], apart := false, laid := [("math/bits.deBruijn32tab", laid_math_bits_deBruijn32tab)], narrowed := true }
def ClaimLimitsUptoSaid : Prop := claimLimitsUptoRow.holds Tryz.pinned (OpenSpec.upto claimLimitsSpec)

end Rows
end Go.Proofs.YtakaojkfipnfcaaGreatDoor
