/-
  NARROWER THAN 'FOR EVERY INPUT', by the rows' own cells (each row's printed sentence says how): BoxWidest: laid · BoxTells: laid · CoverCounts: laid · BoxSplits: laid · BoxSets: laid · CoverPlays: laid · BoxCovers: laid · BoxParts: laid · CoverWhole: laid.
  DERIVED. THE GIVEN ROWS OF THIS SEAT. 9 by the template 'for every input the law returns true; each argument reads behind the call as it read before'; 0 by the template 'total and deterministic' (their statements: YtmcinfbckdiaoaaGreatDoorTotals.lean).
  GIVEN WITH THE SEED: the statements are not yours to turn. If you find one false, say at which input.
  Laid BY PROGRAM, IN A SANDBOX (cutbox-rows.mjs): the forced cells as the released guide's own fill.sh prints them over the translation 8c9901397b234624… (all of the seat's roots in one cut). By AI agents, Wed Nov 11 2026. No macro, syntax, notation, axiom, sorry.
-/
import Derived.Test.YtmcinfbckdiaoaaGreatDoorChecked
import GoSem.Claim
import GoSem.ClaimJoined
import GoSem.ClaimMapViews
import Derived.JoinedTies
import Derived.KernelRfl
namespace Go.Proofs.YtmcinfbckdiaoaaGreatDoor
/- THE CELL 'sum', in the pinned program and in every row, IS THE sha256 OF THE DUMP (.gsa) THAT YtmcinfbckdiaoaaGreatDoorProg.lean LOADS. Nothing in Lean hashes anything: it is a label: what it is worth is what the hold of that sum in a sandbox is worth. -/
noncomputable def Tryz.pinned : Pinned := { name := "ytmcinfbckdiaoaagreatdoor", sum := "8c9901397b2346246331b2b3e17446948f176873fb70093bff474c6bf3994db9", checked := Tryz.checked }
namespace Rows
def none {H : Type} : Left H := { results := [], args := [] }

/- WHAT THE LISTED PACKAGE-LEVEL VARIABLES READ AS WHEN THE CALL BEGINS. Each datum BY PROGRAM (the guide's laid-datum.mjs) off the statement by which the dump's own 'gosem.cut.vars' lays the variable. In a bare row this is a premise. The card (YtmcinfbckdiaoaaGreatDoorCards.lean) ties it to the program's text. -/
def laid_math_bits_deBruijn32tab {H : Type} : DataW H := .agg [.lit (.int .u8 0), .lit (.int .u8 1), .lit (.int .u8 28), .lit (.int .u8 2), .lit (.int .u8 29), .lit (.int .u8 14), .lit (.int .u8 24), .lit (.int .u8 3), .lit (.int .u8 30), .lit (.int .u8 22), .lit (.int .u8 20), .lit (.int .u8 15), .lit (.int .u8 25), .lit (.int .u8 17), .lit (.int .u8 4), .lit (.int .u8 8), .lit (.int .u8 31), .lit (.int .u8 27), .lit (.int .u8 13), .lit (.int .u8 23), .lit (.int .u8 21), .lit (.int .u8 19), .lit (.int .u8 16), .lit (.int .u8 7), .lit (.int .u8 26), .lit (.int .u8 12), .lit (.int .u8 18), .lit (.int .u8 6), .lit (.int .u8 11), .lit (.int .u8 5), .lit (.int .u8 10), .lit (.int .u8 9)]

/-- 'cincturelaw6.BoxWidest': WHATEVER THE INPUT: true; the input reads as it did. -/
def boxWidestSpec : ChangeSpec := { name := "boxWidest", fn := fun _ => fun
  | [d] => { results := [.lit (.bool true)], args := [d] }
  | _ => none }
def boxWidestRow : OpenClaim := { program := "ytmcinfbckdiaoaagreatdoor", sum := "8c9901397b2346246331b2b3e17446948f176873fb70093bff474c6bf3994db9", func := "cincture/cincturelaw6.BoxWidest", spec := "boxWidest", inPlace := ["internal/bytealg.IndexByteString", "internal/bytealg.IndexString"], unfollowed := true, recurses := true, named := ["internal/bytealg.MaxLen", "math/bits.deBruijn32tab"], plainKeys := false, apart := false, laid := [("math/bits.deBruijn32tab", laid_math_bits_deBruijn32tab)] }
def BoxWidestSaid : Prop := boxWidestRow.holds Tryz.pinned (OpenSpec.ofChange boxWidestSpec)

/-- ITS FALSE NEIGHBOUR: 'it returns false'. Refute it at one input. -/
def boxWidestWrong : ChangeSpec := { name := "boxWidest", fn := fun _ => fun
  | [d] => { results := [.lit (.bool false)], args := [d] }
  | _ => none }
def BoxWidestWrongFalsely : Prop := boxWidestRow.holds Tryz.pinned (OpenSpec.ofChange boxWidestWrong)

/-- 'cincturelaw6.BoxTells': WHATEVER THE INPUT: true; the input reads as it did. -/
def boxTellsSpec : ChangeSpec := { name := "boxTells", fn := fun _ => fun
  | [d] => { results := [.lit (.bool true)], args := [d] }
  | _ => none }
def boxTellsRow : OpenClaim := { program := "ytmcinfbckdiaoaagreatdoor", sum := "8c9901397b2346246331b2b3e17446948f176873fb70093bff474c6bf3994db9", func := "cincture/cincturelaw6.BoxTells", spec := "boxTells", inPlace := ["internal/bytealg.IndexByteString", "internal/bytealg.IndexString"], unfollowed := true, recurses := true, named := ["internal/bytealg.MaxLen", "math/bits.deBruijn32tab"], plainKeys := false, apart := false, laid := [("math/bits.deBruijn32tab", laid_math_bits_deBruijn32tab)] }
def BoxTellsSaid : Prop := boxTellsRow.holds Tryz.pinned (OpenSpec.ofChange boxTellsSpec)

/-- ITS FALSE NEIGHBOUR: 'it returns false'. Refute it at one input. -/
def boxTellsWrong : ChangeSpec := { name := "boxTells", fn := fun _ => fun
  | [d] => { results := [.lit (.bool false)], args := [d] }
  | _ => none }
def BoxTellsWrongFalsely : Prop := boxTellsRow.holds Tryz.pinned (OpenSpec.ofChange boxTellsWrong)

/-- 'cincturelaw24.CoverCounts': WHATEVER THE INPUT: true; the input reads as it did. -/
def coverCountsSpec : ChangeSpec := { name := "coverCounts", fn := fun _ => fun
  | [d1, d2, d3] => { results := [.lit (.bool true)], args := [d1, d2, d3] }
  | _ => none }
def coverCountsRow : OpenClaim := { program := "ytmcinfbckdiaoaagreatdoor", sum := "8c9901397b2346246331b2b3e17446948f176873fb70093bff474c6bf3994db9", func := "cincture/cincturelaw24.CoverCounts", spec := "coverCounts", inPlace := ["internal/bytealg.IndexByteString", "internal/bytealg.IndexString"], unfollowed := true, recurses := true, named := ["internal/bytealg.MaxLen", "math/bits.deBruijn32tab"], plainKeys := false, apart := false, laid := [("math/bits.deBruijn32tab", laid_math_bits_deBruijn32tab)] }
def CoverCountsSaid : Prop := coverCountsRow.holds Tryz.pinned (OpenSpec.ofChange coverCountsSpec)

/-- ITS FALSE NEIGHBOUR: 'it returns false'. Refute it at one input. -/
def coverCountsWrong : ChangeSpec := { name := "coverCounts", fn := fun _ => fun
  | [d1, d2, d3] => { results := [.lit (.bool false)], args := [d1, d2, d3] }
  | _ => none }
def CoverCountsWrongFalsely : Prop := coverCountsRow.holds Tryz.pinned (OpenSpec.ofChange coverCountsWrong)

/-- 'cincturelaw6.BoxSplits': WHATEVER THE INPUT: true; the input reads as it did. -/
def boxSplitsSpec : ChangeSpec := { name := "boxSplits", fn := fun _ => fun
  | [d1, d2] => { results := [.lit (.bool true)], args := [d1, d2] }
  | _ => none }
def boxSplitsRow : OpenClaim := { program := "ytmcinfbckdiaoaagreatdoor", sum := "8c9901397b2346246331b2b3e17446948f176873fb70093bff474c6bf3994db9", func := "cincture/cincturelaw6.BoxSplits", spec := "boxSplits", inPlace := ["internal/bytealg.IndexByteString", "internal/bytealg.IndexString"], unfollowed := true, recurses := true, named := ["internal/bytealg.MaxLen", "math/bits.deBruijn32tab"], plainKeys := false, apart := false, laid := [("math/bits.deBruijn32tab", laid_math_bits_deBruijn32tab)] }
def BoxSplitsSaid : Prop := boxSplitsRow.holds Tryz.pinned (OpenSpec.ofChange boxSplitsSpec)

/-- ITS FALSE NEIGHBOUR: 'it returns false'. Refute it at one input. -/
def boxSplitsWrong : ChangeSpec := { name := "boxSplits", fn := fun _ => fun
  | [d1, d2] => { results := [.lit (.bool false)], args := [d1, d2] }
  | _ => none }
def BoxSplitsWrongFalsely : Prop := boxSplitsRow.holds Tryz.pinned (OpenSpec.ofChange boxSplitsWrong)

/-- 'cincturelaw6.BoxSets': WHATEVER THE INPUT: true; the input reads as it did. -/
def boxSetsSpec : ChangeSpec := { name := "boxSets", fn := fun _ => fun
  | [d1, d2, d3] => { results := [.lit (.bool true)], args := [d1, d2, d3] }
  | _ => none }
def boxSetsRow : OpenClaim := { program := "ytmcinfbckdiaoaagreatdoor", sum := "8c9901397b2346246331b2b3e17446948f176873fb70093bff474c6bf3994db9", func := "cincture/cincturelaw6.BoxSets", spec := "boxSets", inPlace := ["internal/bytealg.IndexByteString", "internal/bytealg.IndexString"], unfollowed := true, recurses := true, named := ["internal/bytealg.MaxLen", "math/bits.deBruijn32tab"], plainKeys := false, apart := false, laid := [("math/bits.deBruijn32tab", laid_math_bits_deBruijn32tab)] }
def BoxSetsSaid : Prop := boxSetsRow.holds Tryz.pinned (OpenSpec.ofChange boxSetsSpec)

/-- ITS FALSE NEIGHBOUR: 'it returns false'. Refute it at one input. -/
def boxSetsWrong : ChangeSpec := { name := "boxSets", fn := fun _ => fun
  | [d1, d2, d3] => { results := [.lit (.bool false)], args := [d1, d2, d3] }
  | _ => none }
def BoxSetsWrongFalsely : Prop := boxSetsRow.holds Tryz.pinned (OpenSpec.ofChange boxSetsWrong)

/-- 'cincturelaw24.CoverPlays': WHATEVER THE INPUT: true; the input reads as it did. -/
def coverPlaysSpec : ChangeSpec := { name := "coverPlays", fn := fun _ => fun
  | [d1, d2, d3] => { results := [.lit (.bool true)], args := [d1, d2, d3] }
  | _ => none }
def coverPlaysRow : OpenClaim := { program := "ytmcinfbckdiaoaagreatdoor", sum := "8c9901397b2346246331b2b3e17446948f176873fb70093bff474c6bf3994db9", func := "cincture/cincturelaw24.CoverPlays", spec := "coverPlays", inPlace := ["internal/bytealg.IndexByteString", "internal/bytealg.IndexString"], unfollowed := true, recurses := true, named := ["internal/bytealg.MaxLen", "math/bits.deBruijn32tab"], plainKeys := false, apart := false, laid := [("math/bits.deBruijn32tab", laid_math_bits_deBruijn32tab)] }
def CoverPlaysSaid : Prop := coverPlaysRow.holds Tryz.pinned (OpenSpec.ofChange coverPlaysSpec)

/-- ITS FALSE NEIGHBOUR: 'it returns false'. Refute it at one input. -/
def coverPlaysWrong : ChangeSpec := { name := "coverPlays", fn := fun _ => fun
  | [d1, d2, d3] => { results := [.lit (.bool false)], args := [d1, d2, d3] }
  | _ => none }
def CoverPlaysWrongFalsely : Prop := coverPlaysRow.holds Tryz.pinned (OpenSpec.ofChange coverPlaysWrong)

/-- 'cincturelaw6.BoxCovers': WHATEVER THE INPUT: true; the input reads as it did. -/
def boxCoversSpec : ChangeSpec := { name := "boxCovers", fn := fun _ => fun
  | [d1, d2] => { results := [.lit (.bool true)], args := [d1, d2] }
  | _ => none }
def boxCoversRow : OpenClaim := { program := "ytmcinfbckdiaoaagreatdoor", sum := "8c9901397b2346246331b2b3e17446948f176873fb70093bff474c6bf3994db9", func := "cincture/cincturelaw6.BoxCovers", spec := "boxCovers", inPlace := ["internal/bytealg.IndexByteString", "internal/bytealg.IndexString"], unfollowed := true, recurses := true, named := ["internal/bytealg.MaxLen", "math/bits.deBruijn32tab"], plainKeys := false, apart := false, laid := [("math/bits.deBruijn32tab", laid_math_bits_deBruijn32tab)] }
def BoxCoversSaid : Prop := boxCoversRow.holds Tryz.pinned (OpenSpec.ofChange boxCoversSpec)

/-- ITS FALSE NEIGHBOUR: 'it returns false'. Refute it at one input. -/
def boxCoversWrong : ChangeSpec := { name := "boxCovers", fn := fun _ => fun
  | [d1, d2] => { results := [.lit (.bool false)], args := [d1, d2] }
  | _ => none }
def BoxCoversWrongFalsely : Prop := boxCoversRow.holds Tryz.pinned (OpenSpec.ofChange boxCoversWrong)

/-- 'cincturelaw6.BoxParts': WHATEVER THE INPUT: true; the input reads as it did. -/
def boxPartsSpec : ChangeSpec := { name := "boxParts", fn := fun _ => fun
  | [d1, d2, d3] => { results := [.lit (.bool true)], args := [d1, d2, d3] }
  | _ => none }
def boxPartsRow : OpenClaim := { program := "ytmcinfbckdiaoaagreatdoor", sum := "8c9901397b2346246331b2b3e17446948f176873fb70093bff474c6bf3994db9", func := "cincture/cincturelaw6.BoxParts", spec := "boxParts", inPlace := ["internal/bytealg.IndexByteString", "internal/bytealg.IndexString"], unfollowed := true, recurses := true, named := ["internal/bytealg.MaxLen", "math/bits.deBruijn32tab"], plainKeys := false, apart := false, laid := [("math/bits.deBruijn32tab", laid_math_bits_deBruijn32tab)] }
def BoxPartsSaid : Prop := boxPartsRow.holds Tryz.pinned (OpenSpec.ofChange boxPartsSpec)

/-- ITS FALSE NEIGHBOUR: 'it returns false'. Refute it at one input. -/
def boxPartsWrong : ChangeSpec := { name := "boxParts", fn := fun _ => fun
  | [d1, d2, d3] => { results := [.lit (.bool false)], args := [d1, d2, d3] }
  | _ => none }
def BoxPartsWrongFalsely : Prop := boxPartsRow.holds Tryz.pinned (OpenSpec.ofChange boxPartsWrong)

/-- 'cincturelaw24.CoverWhole': WHATEVER THE INPUT: true; the input reads as it did. -/
def coverWholeSpec : ChangeSpec := { name := "coverWhole", fn := fun _ => fun
  | [d1, d2] => { results := [.lit (.bool true)], args := [d1, d2] }
  | _ => none }
def coverWholeRow : OpenClaim := { program := "ytmcinfbckdiaoaagreatdoor", sum := "8c9901397b2346246331b2b3e17446948f176873fb70093bff474c6bf3994db9", func := "cincture/cincturelaw24.CoverWhole", spec := "coverWhole", inPlace := ["internal/bytealg.IndexByteString", "internal/bytealg.IndexString"], unfollowed := true, recurses := true, named := ["internal/bytealg.MaxLen", "math/bits.deBruijn32tab"], plainKeys := false, apart := false, laid := [("math/bits.deBruijn32tab", laid_math_bits_deBruijn32tab)] }
def CoverWholeSaid : Prop := coverWholeRow.holds Tryz.pinned (OpenSpec.ofChange coverWholeSpec)

/-- ITS FALSE NEIGHBOUR: 'it returns false'. Refute it at one input. -/
def coverWholeWrong : ChangeSpec := { name := "coverWhole", fn := fun _ => fun
  | [d1, d2] => { results := [.lit (.bool false)], args := [d1, d2] }
  | _ => none }
def CoverWholeWrongFalsely : Prop := coverWholeRow.holds Tryz.pinned (OpenSpec.ofChange coverWholeWrong)

/- THE SECOND FORM. 'bulk': how many values and letters a reading holds, each counted each time it is reached (what is shared counts as often as it is met; a slice's spare places count too). A statement '..UptoSaid' is the law's where the arguments, and the package variables that the reading takes, are together of bulk at most 1048576: NARROWER than '..Said'. Prove '..Said' where nothing that the law and all that it calls make is longer than what came in: it says more and counts as full. Else prove '..UptoSaid'. A law counts once. -/
mutual
def uptoBulk {H : Type} : DataW H → Nat
  | .lit (.string bytes) => bytes.length + 1
  | .lit _ => 1
  | .nil => 1
  | .ptr d => uptoBulk d + 1
  | .slice elems spare => uptoBulkAll elems + uptoBulkAll spare + 1
  | .agg parts => uptoBulkAll parts + 1
  | .iface _ d => uptoBulk d + 1
  | .map entries => uptoBulkEntries entries + 1
  | .held _ => 1
def uptoBulkAll {H : Type} : List (DataW H) → Nat
  | [] => 0
  | d :: r => uptoBulk d + uptoBulkAll r
def uptoBulkEntries {H : Type} : List (Lit × DataW H) → Nat
  | [] => 0
  | x :: r => uptoBulkEntry x + uptoBulkEntries r
def uptoBulkEntry {H : Type} : Lit × DataW H → Nat
  | (.string bytes, d) => bytes.length + uptoBulk d + 1
  | (_, d) => uptoBulk d + 1
 end
def uptoSmall : (H : Type) → List (DataW H) → Bool := fun _ ds => decide (uptoBulkAll ds ≤ 1048576)
def OpenSpec.upto (s : _root_.Go.ChangeSpec) : _root_.Go.OpenSpec := { _root_.Go.OpenSpec.ofChange s with cond := some uptoSmall }

/-- 'cincturelaw6.BoxWidest', WHERE WHAT IT READS IS OF BULK AT MOST 1048576: true; the input reads as it did. -/
def boxWidestUptoRow : OpenClaim := { program := "ytmcinfbckdiaoaagreatdoor", sum := "8c9901397b2346246331b2b3e17446948f176873fb70093bff474c6bf3994db9", func := "cincture/cincturelaw6.BoxWidest", spec := "boxWidest", inPlace := ["internal/bytealg.IndexByteString", "internal/bytealg.IndexString"], unfollowed := true, recurses := true, named := ["internal/bytealg.MaxLen", "math/bits.deBruijn32tab"], plainKeys := false, apart := false, laid := [("math/bits.deBruijn32tab", laid_math_bits_deBruijn32tab)], narrowed := true }
def BoxWidestUptoSaid : Prop := boxWidestUptoRow.holds Tryz.pinned (OpenSpec.upto boxWidestSpec)

/-- 'cincturelaw6.BoxTells', WHERE WHAT IT READS IS OF BULK AT MOST 1048576: true; the input reads as it did. -/
def boxTellsUptoRow : OpenClaim := { program := "ytmcinfbckdiaoaagreatdoor", sum := "8c9901397b2346246331b2b3e17446948f176873fb70093bff474c6bf3994db9", func := "cincture/cincturelaw6.BoxTells", spec := "boxTells", inPlace := ["internal/bytealg.IndexByteString", "internal/bytealg.IndexString"], unfollowed := true, recurses := true, named := ["internal/bytealg.MaxLen", "math/bits.deBruijn32tab"], plainKeys := false, apart := false, laid := [("math/bits.deBruijn32tab", laid_math_bits_deBruijn32tab)], narrowed := true }
def BoxTellsUptoSaid : Prop := boxTellsUptoRow.holds Tryz.pinned (OpenSpec.upto boxTellsSpec)

/-- 'cincturelaw24.CoverCounts', WHERE WHAT IT READS IS OF BULK AT MOST 1048576: true; the input reads as it did. -/
def coverCountsUptoRow : OpenClaim := { program := "ytmcinfbckdiaoaagreatdoor", sum := "8c9901397b2346246331b2b3e17446948f176873fb70093bff474c6bf3994db9", func := "cincture/cincturelaw24.CoverCounts", spec := "coverCounts", inPlace := ["internal/bytealg.IndexByteString", "internal/bytealg.IndexString"], unfollowed := true, recurses := true, named := ["internal/bytealg.MaxLen", "math/bits.deBruijn32tab"], plainKeys := false, apart := false, laid := [("math/bits.deBruijn32tab", laid_math_bits_deBruijn32tab)], narrowed := true }
def CoverCountsUptoSaid : Prop := coverCountsUptoRow.holds Tryz.pinned (OpenSpec.upto coverCountsSpec)

/-- 'cincturelaw6.BoxSplits', WHERE WHAT IT READS IS OF BULK AT MOST 1048576: true; the input reads as it did. -/
def boxSplitsUptoRow : OpenClaim := { program := "ytmcinfbckdiaoaagreatdoor", sum := "8c9901397b2346246331b2b3e17446948f176873fb70093bff474c6bf3994db9", func := "cincture/cincturelaw6.BoxSplits", spec := "boxSplits", inPlace := ["internal/bytealg.IndexByteString", "internal/bytealg.IndexString"], unfollowed := true, recurses := true, named := ["internal/bytealg.MaxLen", "math/bits.deBruijn32tab"], plainKeys := false, apart := false, laid := [("math/bits.deBruijn32tab", laid_math_bits_deBruijn32tab)], narrowed := true }
def BoxSplitsUptoSaid : Prop := boxSplitsUptoRow.holds Tryz.pinned (OpenSpec.upto boxSplitsSpec)

/-- 'cincturelaw6.BoxSets', WHERE WHAT IT READS IS OF BULK AT MOST 1048576: true; the input reads as it did. -/
def boxSetsUptoRow : OpenClaim := { program := "ytmcinfbckdiaoaagreatdoor", sum := "8c9901397b2346246331b2b3e17446948f176873fb70093bff474c6bf3994db9", func := "cincture/cincturelaw6.BoxSets", spec := "boxSets", inPlace := ["internal/bytealg.IndexByteString", "internal/bytealg.IndexString"], unfollowed := true, recurses := true, named := ["internal/bytealg.MaxLen", "math/bits.deBruijn32tab"], plainKeys := false, apart := false, laid := [("math/bits.deBruijn32tab", laid_math_bits_deBruijn32tab)], narrowed := true }
def BoxSetsUptoSaid : Prop := boxSetsUptoRow.holds Tryz.pinned (OpenSpec.upto boxSetsSpec)

/-- 'cincturelaw24.CoverPlays', WHERE WHAT IT READS IS OF BULK AT MOST 1048576: true; the input reads as it did. -/
def coverPlaysUptoRow : OpenClaim := { program := "ytmcinfbckdiaoaagreatdoor", sum := "8c9901397b2346246331b2b3e17446948f176873fb70093bff474c6bf3994db9", func := "cincture/cincturelaw24.CoverPlays", spec := "coverPlays", inPlace := ["internal/bytealg.IndexByteString", "internal/bytealg.IndexString"], unfollowed := true, recurses := true, named := ["internal/bytealg.MaxLen", "math/bits.deBruijn32tab"], plainKeys := false, apart := false, laid := [("math/bits.deBruijn32tab", laid_math_bits_deBruijn32tab)], narrowed := true }
def CoverPlaysUptoSaid : Prop := coverPlaysUptoRow.holds Tryz.pinned (OpenSpec.upto coverPlaysSpec)

/-- 'cincturelaw6.BoxCovers', WHERE WHAT IT READS IS OF BULK AT MOST 1048576: true; the input reads as it did. -/
def boxCoversUptoRow : OpenClaim := { program := "ytmcinfbckdiaoaagreatdoor", sum := "8c9901397b2346246331b2b3e17446948f176873fb70093bff474c6bf3994db9", func := "cincture/cincturelaw6.BoxCovers", spec := "boxCovers", inPlace := ["internal/bytealg.IndexByteString", "internal/bytealg.IndexString"], unfollowed := true, recurses := true, named := ["internal/bytealg.MaxLen", "math/bits.deBruijn32tab"], plainKeys := false, apart := false, laid := [("math/bits.deBruijn32tab", laid_math_bits_deBruijn32tab)], narrowed := true }
def BoxCoversUptoSaid : Prop := boxCoversUptoRow.holds Tryz.pinned (OpenSpec.upto boxCoversSpec)

/-- 'cincturelaw6.BoxParts', WHERE WHAT IT READS IS OF BULK AT MOST 1048576: true; the input reads as it did. -/
def boxPartsUptoRow : OpenClaim := { program := "ytmcinfbckdiaoaagreatdoor", sum := "8c9901397b2346246331b2b3e17446948f176873fb70093bff474c6bf3994db9", func := "cincture/cincturelaw6.BoxParts", spec := "boxParts", inPlace := ["internal/bytealg.IndexByteString", "internal/bytealg.IndexString"], unfollowed := true, recurses := true, named := ["internal/bytealg.MaxLen", "math/bits.deBruijn32tab"], plainKeys := false, apart := false, laid := [("math/bits.deBruijn32tab", laid_math_bits_deBruijn32tab)], narrowed := true }
def BoxPartsUptoSaid : Prop := boxPartsUptoRow.holds Tryz.pinned (OpenSpec.upto boxPartsSpec)

/-- 'cincturelaw24.CoverWhole', WHERE WHAT IT READS IS OF BULK AT MOST 1048576: true; the input reads as it did. -/
def coverWholeUptoRow : OpenClaim := { program := "ytmcinfbckdiaoaagreatdoor", sum := "8c9901397b2346246331b2b3e17446948f176873fb70093bff474c6bf3994db9", func := "cincture/cincturelaw24.CoverWhole", spec := "coverWhole", inPlace := ["internal/bytealg.IndexByteString", "internal/bytealg.IndexString"], unfollowed := true, recurses := true, named := ["internal/bytealg.MaxLen", "math/bits.deBruijn32tab"], plainKeys := false, apart := false, laid := [("math/bits.deBruijn32tab", laid_math_bits_deBruijn32tab)], narrowed := true }
def CoverWholeUptoSaid : Prop := coverWholeUptoRow.holds Tryz.pinned (OpenSpec.upto coverWholeSpec)

end Rows
end Go.Proofs.YtmcinfbckdiaoaaGreatDoor
