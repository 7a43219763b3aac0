/-
  NARROWER THAN 'FOR EVERY INPUT', by the rows' own cells (each row's printed sentence says how): ShaTells: laid · ShaPieces: laid · ShaEdges: laid · ShaHex: laid · SegTells: laid · SegGets: laid · FeedPieces: laid · FeedPlays: laid · FeedNone: laid.
  DERIVED. THE GIVEN ROWS OF THIS SEAT. 9 by the template 'for every input the law returns true; each argument reads behind the call as it read before'; 0 by the template 'total and deterministic' (their statements: YtpobbfhdkbnpmaaDoorTotals.lean).
  GIVEN WITH THE SEED: the statements are not yours to turn. If you find one false, say at which input.
  Laid BY PROGRAM, IN A SANDBOX (cutbox-rows.mjs): the forced cells as the released guide's own fill.sh prints them over the translation b7bff9baef6d63bb… (all of the seat's roots in one cut). By AI agents, Wed Nov 11 2026. No macro, syntax, notation, axiom, sorry.
-/
import Derived.Test.YtpobbfhdkbnpmaaDoorChecked
import GoSem.Claim
import GoSem.ClaimJoined
import GoSem.ClaimMapViews
import Derived.JoinedTies
import Derived.KernelRfl
namespace Go.Proofs.YtpobbfhdkbnpmaaDoor
/- THE CELL 'sum', in the pinned program and in every row, IS THE sha256 OF THE DUMP (.gsa) THAT YtpobbfhdkbnpmaaDoorProg.lean LOADS. Nothing in Lean hashes anything: it is a label: what it is worth is what the hold of that sum in a sandbox is worth. -/
noncomputable def Tryd.pinned : Pinned := { name := "ytpobbfhdkbnpmaadoor", sum := "b7bff9baef6d63bb0028b527e7de396f1709fa31c0babc13ac934c040cd3b6a1", checked := Tryd.checked }
namespace Rows
def none {H : Type} : Left H := { results := [], args := [] }

/- WHAT THE LISTED PACKAGE-LEVEL VARIABLES READ AS WHEN THE CALL BEGINS. Each datum BY PROGRAM (the guide's laid-datum.mjs) off the statement by which the dump's own 'gosem.cut.vars' lays the variable. In a bare row this is a premise. The card (YtpobbfhdkbnpmaaDoorCards.lean) ties it to the program's text. -/
def laid_cincture_sha_rounds {H : Type} : DataW H := .agg [.lit (.int .u32 1116352408), .lit (.int .u32 1899447441), .lit (.int .u32 3049323471), .lit (.int .u32 3921009573), .lit (.int .u32 961987163), .lit (.int .u32 1508970993), .lit (.int .u32 2453635748), .lit (.int .u32 2870763221), .lit (.int .u32 3624381080), .lit (.int .u32 310598401), .lit (.int .u32 607225278), .lit (.int .u32 1426881987), .lit (.int .u32 1925078388), .lit (.int .u32 2162078206), .lit (.int .u32 2614888103), .lit (.int .u32 3248222580), .lit (.int .u32 3835390401), .lit (.int .u32 4022224774), .lit (.int .u32 264347078), .lit (.int .u32 604807628), .lit (.int .u32 770255983), .lit (.int .u32 1249150122), .lit (.int .u32 1555081692), .lit (.int .u32 1996064986), .lit (.int .u32 2554220882), .lit (.int .u32 2821834349), .lit (.int .u32 2952996808), .lit (.int .u32 3210313671), .lit (.int .u32 3336571891), .lit (.int .u32 3584528711), .lit (.int .u32 113926993), .lit (.int .u32 338241895), .lit (.int .u32 666307205), .lit (.int .u32 773529912), .lit (.int .u32 1294757372), .lit (.int .u32 1396182291), .lit (.int .u32 1695183700), .lit (.int .u32 1986661051), .lit (.int .u32 2177026350), .lit (.int .u32 2456956037), .lit (.int .u32 2730485921), .lit (.int .u32 2820302411), .lit (.int .u32 3259730800), .lit (.int .u32 3345764771), .lit (.int .u32 3516065817), .lit (.int .u32 3600352804), .lit (.int .u32 4094571909), .lit (.int .u32 275423344), .lit (.int .u32 430227734), .lit (.int .u32 506948616), .lit (.int .u32 659060556), .lit (.int .u32 883997877), .lit (.int .u32 958139571), .lit (.int .u32 1322822218), .lit (.int .u32 1537002063), .lit (.int .u32 1747873779), .lit (.int .u32 1955562222), .lit (.int .u32 2024104815), .lit (.int .u32 2227730452), .lit (.int .u32 2361852424), .lit (.int .u32 2428436474), .lit (.int .u32 2756734187), .lit (.int .u32 3204031479), .lit (.int .u32 3329325298)]

/-- 'cincturelaw17.ShaTells': WHATEVER THE INPUT: true; the input reads as it did. -/
def shaTellsSpec : ChangeSpec := { name := "shaTells", fn := fun _ => fun
  | [d1, d2] => { results := [.lit (.bool true)], args := [d1, d2] }
  | _ => none }
def shaTellsRow : OpenClaim := { program := "ytpobbfhdkbnpmaadoor", sum := "b7bff9baef6d63bb0028b527e7de396f1709fa31c0babc13ac934c040cd3b6a1", func := "cincture/cincturelaw17.ShaTells", spec := "shaTells", inPlace := ["internal/abi.NoEscape", "internal/bytealg.MakeNoZero"], named := ["cincture/sha.rounds"], apart := false, laid := [("cincture/sha.rounds", laid_cincture_sha_rounds)] }
def ShaTellsSaid : Prop := shaTellsRow.holds Tryd.pinned (OpenSpec.ofChange shaTellsSpec)

/-- ITS FALSE NEIGHBOUR: 'it returns false'. Refute it at one input. -/
def shaTellsWrong : ChangeSpec := { name := "shaTells", fn := fun _ => fun
  | [d1, d2] => { results := [.lit (.bool false)], args := [d1, d2] }
  | _ => none }
def ShaTellsWrongFalsely : Prop := shaTellsRow.holds Tryd.pinned (OpenSpec.ofChange shaTellsWrong)

/-- 'cincturelaw17.ShaPieces': WHATEVER THE INPUT: true; the input reads as it did. -/
def shaPiecesSpec : ChangeSpec := { name := "shaPieces", fn := fun _ => fun
  | [d1, d2, d3] => { results := [.lit (.bool true)], args := [d1, d2, d3] }
  | _ => none }
def shaPiecesRow : OpenClaim := { program := "ytpobbfhdkbnpmaadoor", sum := "b7bff9baef6d63bb0028b527e7de396f1709fa31c0babc13ac934c040cd3b6a1", func := "cincture/cincturelaw17.ShaPieces", spec := "shaPieces", inPlace := ["internal/abi.NoEscape", "internal/bytealg.MakeNoZero"], named := ["cincture/sha.rounds"], apart := false, laid := [("cincture/sha.rounds", laid_cincture_sha_rounds)] }
def ShaPiecesSaid : Prop := shaPiecesRow.holds Tryd.pinned (OpenSpec.ofChange shaPiecesSpec)

/-- ITS FALSE NEIGHBOUR: 'it returns false'. Refute it at one input. -/
def shaPiecesWrong : ChangeSpec := { name := "shaPieces", fn := fun _ => fun
  | [d1, d2, d3] => { results := [.lit (.bool false)], args := [d1, d2, d3] }
  | _ => none }
def ShaPiecesWrongFalsely : Prop := shaPiecesRow.holds Tryd.pinned (OpenSpec.ofChange shaPiecesWrong)

/-- 'cincturelaw17.ShaEdges': WHATEVER THE INPUT: true; the input reads as it did. -/
def shaEdgesSpec : ChangeSpec := { name := "shaEdges", fn := fun _ => fun
  | [d1, d2] => { results := [.lit (.bool true)], args := [d1, d2] }
  | _ => none }
def shaEdgesRow : OpenClaim := { program := "ytpobbfhdkbnpmaadoor", sum := "b7bff9baef6d63bb0028b527e7de396f1709fa31c0babc13ac934c040cd3b6a1", func := "cincture/cincturelaw17.ShaEdges", spec := "shaEdges", inPlace := ["internal/abi.NoEscape", "internal/bytealg.MakeNoZero"], named := ["cincture/sha.rounds"], apart := false, laid := [("cincture/sha.rounds", laid_cincture_sha_rounds)] }
def ShaEdgesSaid : Prop := shaEdgesRow.holds Tryd.pinned (OpenSpec.ofChange shaEdgesSpec)

/-- ITS FALSE NEIGHBOUR: 'it returns false'. Refute it at one input. -/
def shaEdgesWrong : ChangeSpec := { name := "shaEdges", fn := fun _ => fun
  | [d1, d2] => { results := [.lit (.bool false)], args := [d1, d2] }
  | _ => none }
def ShaEdgesWrongFalsely : Prop := shaEdgesRow.holds Tryd.pinned (OpenSpec.ofChange shaEdgesWrong)

/-- 'cincturelaw17.ShaHex': WHATEVER THE INPUT: true; the input reads as it did. -/
def shaHexSpec : ChangeSpec := { name := "shaHex", fn := fun _ => fun
  | [d1, d2] => { results := [.lit (.bool true)], args := [d1, d2] }
  | _ => none }
def shaHexRow : OpenClaim := { program := "ytpobbfhdkbnpmaadoor", sum := "b7bff9baef6d63bb0028b527e7de396f1709fa31c0babc13ac934c040cd3b6a1", func := "cincture/cincturelaw17.ShaHex", spec := "shaHex", inPlace := ["internal/abi.NoEscape", "internal/bytealg.MakeNoZero"], named := ["cincture/sha.rounds"], apart := false, laid := [("cincture/sha.rounds", laid_cincture_sha_rounds)] }
def ShaHexSaid : Prop := shaHexRow.holds Tryd.pinned (OpenSpec.ofChange shaHexSpec)

/-- ITS FALSE NEIGHBOUR: 'it returns false'. Refute it at one input. -/
def shaHexWrong : ChangeSpec := { name := "shaHex", fn := fun _ => fun
  | [d1, d2] => { results := [.lit (.bool false)], args := [d1, d2] }
  | _ => none }
def ShaHexWrongFalsely : Prop := shaHexRow.holds Tryd.pinned (OpenSpec.ofChange shaHexWrong)

/-- 'cincturelaw21.SegTells': WHATEVER THE INPUT: true; the input reads as it did. -/
def segTellsSpec : ChangeSpec := { name := "segTells", fn := fun _ => fun
  | [d1, d2] => { results := [.lit (.bool true)], args := [d1, d2] }
  | _ => none }
def segTellsRow : OpenClaim := { program := "ytpobbfhdkbnpmaadoor", sum := "b7bff9baef6d63bb0028b527e7de396f1709fa31c0babc13ac934c040cd3b6a1", func := "cincture/cincturelaw21.SegTells", spec := "segTells", inPlace := ["internal/abi.NoEscape", "internal/bytealg.MakeNoZero"], named := ["cincture/sha.rounds"], apart := false, laid := [("cincture/sha.rounds", laid_cincture_sha_rounds)] }
def SegTellsSaid : Prop := segTellsRow.holds Tryd.pinned (OpenSpec.ofChange segTellsSpec)

/-- ITS FALSE NEIGHBOUR: 'it returns false'. Refute it at one input. -/
def segTellsWrong : ChangeSpec := { name := "segTells", fn := fun _ => fun
  | [d1, d2] => { results := [.lit (.bool false)], args := [d1, d2] }
  | _ => none }
def SegTellsWrongFalsely : Prop := segTellsRow.holds Tryd.pinned (OpenSpec.ofChange segTellsWrong)

/-- 'cincturelaw21.SegGets': WHATEVER THE INPUT: true; the input reads as it did. -/
def segGetsSpec : ChangeSpec := { name := "segGets", fn := fun _ => fun
  | [d1, d2, d3, d4] => { results := [.lit (.bool true)], args := [d1, d2, d3, d4] }
  | _ => none }
def segGetsRow : OpenClaim := { program := "ytpobbfhdkbnpmaadoor", sum := "b7bff9baef6d63bb0028b527e7de396f1709fa31c0babc13ac934c040cd3b6a1", func := "cincture/cincturelaw21.SegGets", spec := "segGets", inPlace := ["internal/abi.NoEscape", "internal/bytealg.MakeNoZero"], named := ["cincture/sha.rounds"], apart := false, laid := [("cincture/sha.rounds", laid_cincture_sha_rounds)] }
def SegGetsSaid : Prop := segGetsRow.holds Tryd.pinned (OpenSpec.ofChange segGetsSpec)

/-- ITS FALSE NEIGHBOUR: 'it returns false'. Refute it at one input. -/
def segGetsWrong : ChangeSpec := { name := "segGets", fn := fun _ => fun
  | [d1, d2, d3, d4] => { results := [.lit (.bool false)], args := [d1, d2, d3, d4] }
  | _ => none }
def SegGetsWrongFalsely : Prop := segGetsRow.holds Tryd.pinned (OpenSpec.ofChange segGetsWrong)

/-- 'cincturelaw22.FeedPieces': WHATEVER THE INPUT: true; the input reads as it did. -/
def feedPiecesSpec : ChangeSpec := { name := "feedPieces", fn := fun _ => fun
  | [d1, d2] => { results := [.lit (.bool true)], args := [d1, d2] }
  | _ => none }
def feedPiecesRow : OpenClaim := { program := "ytpobbfhdkbnpmaadoor", sum := "b7bff9baef6d63bb0028b527e7de396f1709fa31c0babc13ac934c040cd3b6a1", func := "cincture/cincturelaw22.FeedPieces", spec := "feedPieces", inPlace := ["internal/abi.NoEscape", "internal/bytealg.MakeNoZero"], named := ["cincture/sha.rounds"], apart := false, laid := [("cincture/sha.rounds", laid_cincture_sha_rounds)] }
def FeedPiecesSaid : Prop := feedPiecesRow.holds Tryd.pinned (OpenSpec.ofChange feedPiecesSpec)

/-- ITS FALSE NEIGHBOUR: 'it returns false'. Refute it at one input. -/
def feedPiecesWrong : ChangeSpec := { name := "feedPieces", fn := fun _ => fun
  | [d1, d2] => { results := [.lit (.bool false)], args := [d1, d2] }
  | _ => none }
def FeedPiecesWrongFalsely : Prop := feedPiecesRow.holds Tryd.pinned (OpenSpec.ofChange feedPiecesWrong)

/-- 'cincturelaw22.FeedPlays': WHATEVER THE INPUT: true; the input reads as it did. -/
def feedPlaysSpec : ChangeSpec := { name := "feedPlays", fn := fun _ => fun
  | [d1, d2, d3, d4, d5] => { results := [.lit (.bool true)], args := [d1, d2, d3, d4, d5] }
  | _ => none }
def feedPlaysRow : OpenClaim := { program := "ytpobbfhdkbnpmaadoor", sum := "b7bff9baef6d63bb0028b527e7de396f1709fa31c0babc13ac934c040cd3b6a1", func := "cincture/cincturelaw22.FeedPlays", spec := "feedPlays", inPlace := ["internal/abi.NoEscape", "internal/bytealg.MakeNoZero"], named := ["cincture/sha.rounds"], apart := false, laid := [("cincture/sha.rounds", laid_cincture_sha_rounds)] }
def FeedPlaysSaid : Prop := feedPlaysRow.holds Tryd.pinned (OpenSpec.ofChange feedPlaysSpec)

/-- ITS FALSE NEIGHBOUR: 'it returns false'. Refute it at one input. -/
def feedPlaysWrong : ChangeSpec := { name := "feedPlays", fn := fun _ => fun
  | [d1, d2, d3, d4, d5] => { results := [.lit (.bool false)], args := [d1, d2, d3, d4, d5] }
  | _ => none }
def FeedPlaysWrongFalsely : Prop := feedPlaysRow.holds Tryd.pinned (OpenSpec.ofChange feedPlaysWrong)

/-- 'cincturelaw22.FeedNone': WHATEVER THE INPUT: true; the input reads as it did. -/
def feedNoneSpec : ChangeSpec := { name := "feedNone", fn := fun _ => fun
  | [d] => { results := [.lit (.bool true)], args := [d] }
  | _ => none }
def feedNoneRow : OpenClaim := { program := "ytpobbfhdkbnpmaadoor", sum := "b7bff9baef6d63bb0028b527e7de396f1709fa31c0babc13ac934c040cd3b6a1", func := "cincture/cincturelaw22.FeedNone", spec := "feedNone", inPlace := ["internal/abi.NoEscape", "internal/bytealg.MakeNoZero"], named := ["cincture/sha.rounds"], apart := false, laid := [("cincture/sha.rounds", laid_cincture_sha_rounds)] }
def FeedNoneSaid : Prop := feedNoneRow.holds Tryd.pinned (OpenSpec.ofChange feedNoneSpec)

/-- ITS FALSE NEIGHBOUR: 'it returns false'. Refute it at one input. -/
def feedNoneWrong : ChangeSpec := { name := "feedNone", fn := fun _ => fun
  | [d] => { results := [.lit (.bool false)], args := [d] }
  | _ => none }
def FeedNoneWrongFalsely : Prop := feedNoneRow.holds Tryd.pinned (OpenSpec.ofChange feedNoneWrong)

/- THE SECOND FORM. 'bulk': how many values and letters a reading holds, each counted each time it is reached (what is shared counts as often as it is met; a slice's spare places count too). A statement '..UptoSaid' is the law's where the arguments, and the package variables that the reading takes, are together of bulk at most 1048576: NARROWER than '..Said'. Prove '..Said' where nothing that the law and all that it calls make is longer than what came in: it says more and counts as full. Else prove '..UptoSaid'. A law counts once. -/
mutual
def uptoBulk {H : Type} : DataW H → Nat
  | .lit (.string bytes) => bytes.length + 1
  | .lit _ => 1
  | .nil => 1
  | .ptr d => uptoBulk d + 1
  | .slice elems spare => uptoBulkAll elems + uptoBulkAll spare + 1
  | .agg parts => uptoBulkAll parts + 1
  | .iface _ d => uptoBulk d + 1
  | .map entries => uptoBulkEntries entries + 1
  | .held _ => 1
def uptoBulkAll {H : Type} : List (DataW H) → Nat
  | [] => 0
  | d :: r => uptoBulk d + uptoBulkAll r
def uptoBulkEntries {H : Type} : List (Lit × DataW H) → Nat
  | [] => 0
  | x :: r => uptoBulkEntry x + uptoBulkEntries r
def uptoBulkEntry {H : Type} : Lit × DataW H → Nat
  | (.string bytes, d) => bytes.length + uptoBulk d + 1
  | (_, d) => uptoBulk d + 1
 end
def uptoSmall : (H : Type) → List (DataW H) → Bool := fun _ ds => decide (uptoBulkAll ds ≤ 1048576)
def OpenSpec.upto (s : _root_.Go.ChangeSpec) : _root_.Go.OpenSpec := { _root_.Go.OpenSpec.ofChange s with cond := some uptoSmall }

/-- 'cincturelaw17.ShaTells', WHERE WHAT IT READS IS OF BULK AT MOST 1048576: true; the input reads as it did. -/
def shaTellsUptoRow : OpenClaim := { program := "ytpobbfhdkbnpmaadoor", sum := "b7bff9baef6d63bb0028b527e7de396f1709fa31c0babc13ac934c040cd3b6a1", func := "cincture/cincturelaw17.ShaTells", spec := "shaTells", inPlace := ["internal/abi.NoEscape", "internal/bytealg.MakeNoZero"], named := ["cincture/sha.rounds"], apart := false, laid := [("cincture/sha.rounds", laid_cincture_sha_rounds)], narrowed := true }
def ShaTellsUptoSaid : Prop := shaTellsUptoRow.holds Tryd.pinned (OpenSpec.upto shaTellsSpec)

/-- 'cincturelaw17.ShaPieces', WHERE WHAT IT READS IS OF BULK AT MOST 1048576: true; the input reads as it did. -/
def shaPiecesUptoRow : OpenClaim := { program := "ytpobbfhdkbnpmaadoor", sum := "b7bff9baef6d63bb0028b527e7de396f1709fa31c0babc13ac934c040cd3b6a1", func := "cincture/cincturelaw17.ShaPieces", spec := "shaPieces", inPlace := ["internal/abi.NoEscape", "internal/bytealg.MakeNoZero"], named := ["cincture/sha.rounds"], apart := false, laid := [("cincture/sha.rounds", laid_cincture_sha_rounds)], narrowed := true }
def ShaPiecesUptoSaid : Prop := shaPiecesUptoRow.holds Tryd.pinned (OpenSpec.upto shaPiecesSpec)

/-- 'cincturelaw17.ShaEdges', WHERE WHAT IT READS IS OF BULK AT MOST 1048576: true; the input reads as it did. -/
def shaEdgesUptoRow : OpenClaim := { program := "ytpobbfhdkbnpmaadoor", sum := "b7bff9baef6d63bb0028b527e7de396f1709fa31c0babc13ac934c040cd3b6a1", func := "cincture/cincturelaw17.ShaEdges", spec := "shaEdges", inPlace := ["internal/abi.NoEscape", "internal/bytealg.MakeNoZero"], named := ["cincture/sha.rounds"], apart := false, laid := [("cincture/sha.rounds", laid_cincture_sha_rounds)], narrowed := true }
def ShaEdgesUptoSaid : Prop := shaEdgesUptoRow.holds Tryd.pinned (OpenSpec.upto shaEdgesSpec)

/-- 'cincturelaw17.ShaHex', WHERE WHAT IT READS IS OF BULK AT MOST 1048576: true; the input reads as it did. -/
def shaHexUptoRow : OpenClaim := { program := "ytpobbfhdkbnpmaadoor", sum := "b7bff9baef6d63bb0028b527e7de396f1709fa31c0babc13ac934c040cd3b6a1", func := "cincture/cincturelaw17.ShaHex", spec := "shaHex", inPlace := ["internal/abi.NoEscape", "internal/bytealg.MakeNoZero"], named := ["cincture/sha.rounds"], apart := false, laid := [("cincture/sha.rounds", laid_cincture_sha_rounds)], narrowed := true }
def ShaHexUptoSaid : Prop := shaHexUptoRow.holds Tryd.pinned (OpenSpec.upto shaHexSpec)

/-- 'cincturelaw21.SegTells', WHERE WHAT IT READS IS OF BULK AT MOST 1048576: true; the input reads as it did. -/
def segTellsUptoRow : OpenClaim := { program := "ytpobbfhdkbnpmaadoor", sum := "b7bff9baef6d63bb0028b527e7de396f1709fa31c0babc13ac934c040cd3b6a1", func := "cincture/cincturelaw21.SegTells", spec := "segTells", inPlace := ["internal/abi.NoEscape", "internal/bytealg.MakeNoZero"], named := ["cincture/sha.rounds"], apart := false, laid := [("cincture/sha.rounds", laid_cincture_sha_rounds)], narrowed := true }
def SegTellsUptoSaid : Prop := segTellsUptoRow.holds Tryd.pinned (OpenSpec.upto segTellsSpec)

/-- 'cincturelaw21.SegGets', WHERE WHAT IT READS IS OF BULK AT MOST 1048576: true; the input reads as it did. -/
def segGetsUptoRow : OpenClaim := { program := "ytpobbfhdkbnpmaadoor", sum := "b7bff9baef6d63bb0028b527e7de396f1709fa31c0babc13ac934c040cd3b6a1", func := "cincture/cincturelaw21.SegGets", spec := "segGets", inPlace := ["internal/abi.NoEscape", "internal/bytealg.MakeNoZero"], named := ["cincture/sha.rounds"], apart := false, laid := [("cincture/sha.rounds", laid_cincture_sha_rounds)], narrowed := true }
def SegGetsUptoSaid : Prop := segGetsUptoRow.holds Tryd.pinned (OpenSpec.upto segGetsSpec)

/-- 'cincturelaw22.FeedPieces', WHERE WHAT IT READS IS OF BULK AT MOST 1048576: true; the input reads as it did. -/
def feedPiecesUptoRow : OpenClaim := { program := "ytpobbfhdkbnpmaadoor", sum := "b7bff9baef6d63bb0028b527e7de396f1709fa31c0babc13ac934c040cd3b6a1", func := "cincture/cincturelaw22.FeedPieces", spec := "feedPieces", inPlace := ["internal/abi.NoEscape", "internal/bytealg.MakeNoZero"], named := ["cincture/sha.rounds"], apart := false, laid := [("cincture/sha.rounds", laid_cincture_sha_rounds)], narrowed := true }
def FeedPiecesUptoSaid : Prop := feedPiecesUptoRow.holds Tryd.pinned (OpenSpec.upto feedPiecesSpec)

/-- 'cincturelaw22.FeedPlays', WHERE WHAT IT READS IS OF BULK AT MOST 1048576: true; the input reads as it did. -/
def feedPlaysUptoRow : OpenClaim := { program := "ytpobbfhdkbnpmaadoor", sum := "b7bff9baef6d63bb0028b527e7de396f1709fa31c0babc13ac934c040cd3b6a1", func := "cincture/cincturelaw22.FeedPlays", spec := "feedPlays", inPlace := ["internal/abi.NoEscape", "internal/bytealg.MakeNoZero"], named := ["cincture/sha.rounds"], apart := false, laid := [("cincture/sha.rounds", laid_cincture_sha_rounds)], narrowed := true }
def FeedPlaysUptoSaid : Prop := feedPlaysUptoRow.holds Tryd.pinned (OpenSpec.upto feedPlaysSpec)

/-- 'cincturelaw22.FeedNone', WHERE WHAT IT READS IS OF BULK AT MOST 1048576: true; the input reads as it did. -/
def feedNoneUptoRow : OpenClaim := { program := "ytpobbfhdkbnpmaadoor", sum := "b7bff9baef6d63bb0028b527e7de396f1709fa31c0babc13ac934c040cd3b6a1", func := "cincture/cincturelaw22.FeedNone", spec := "feedNone", inPlace := ["internal/abi.NoEscape", "internal/bytealg.MakeNoZero"], named := ["cincture/sha.rounds"], apart := false, laid := [("cincture/sha.rounds", laid_cincture_sha_rounds)], narrowed := true }
def FeedNoneUptoSaid : Prop := feedNoneUptoRow.holds Tryd.pinned (OpenSpec.upto feedNoneSpec)

end Rows
end Go.Proofs.YtpobbfhdkbnpmaaDoor
