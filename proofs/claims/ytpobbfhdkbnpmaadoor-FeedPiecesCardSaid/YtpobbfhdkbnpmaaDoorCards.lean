/-
  DERIVED. GIVEN WITH THE SEED: THE CARDS: each row of YtpobbfhdkbnpmaaDoorRows.lean that lists a variable, with what it lists TIED to the program's text (the seventh form; the later family's looks); each row that meets fmt, with fmt's text TOLD by the authors' own Lean function (tested against real Go, not proved from fmt's source: count such statements apart). THE CARD IS WHAT COUNTS. Prove the row's statement (the work); the ties are given (YtpobbfhdkbnpmaaDoorTie.lean); close each card by the builder's one call (the guide's Derived/Test/ToyasCard.lean, 'card_holds'). Laid BY PROGRAM, IN A SANDBOX (cutbox-door.mjs). By AI agents, Wed Nov 11 2026. No macro, syntax, notation, axiom, sorry.
-/
import Derived.Test.YtpobbfhdkbnpmaaDoorRows
import GoSem.ClaimSeven
namespace Go.Proofs.YtpobbfhdkbnpmaaDoor
namespace Rows

/-- THE TIED CARD OF 'cincturelaw17.ShaTells'. -/
def shaTellsCard : Claim7 := { stood := { row := shaTellsRow, standIns := [], harness := (true, "1d1e348f2d401eb312f3c23ab06e41d56d7a4967ec80dc6ff63abbc8d8e180da"), looks := false }, kinds := [], alts := [], laidByText := true, laidKinds := [.data], laidTests := true, laidLooks := .later }
def ShaTellsCardSaid : Prop := Claim7.holds Tryd.pinned (.plain (OpenSpec.ofChange shaTellsSpec)) shaTellsCard

/-- THE TIED CARD OF 'cincturelaw17.ShaPieces'. -/
def shaPiecesCard : Claim7 := { stood := { row := shaPiecesRow, standIns := [], harness := (true, "1d1e348f2d401eb312f3c23ab06e41d56d7a4967ec80dc6ff63abbc8d8e180da"), looks := false }, kinds := [], alts := [], laidByText := true, laidKinds := [.data], laidTests := true, laidLooks := .later }
def ShaPiecesCardSaid : Prop := Claim7.holds Tryd.pinned (.plain (OpenSpec.ofChange shaPiecesSpec)) shaPiecesCard

/-- THE TIED CARD OF 'cincturelaw17.ShaEdges'. -/
def shaEdgesCard : Claim7 := { stood := { row := shaEdgesRow, standIns := [], harness := (true, "1d1e348f2d401eb312f3c23ab06e41d56d7a4967ec80dc6ff63abbc8d8e180da"), looks := false }, kinds := [], alts := [], laidByText := true, laidKinds := [.data], laidTests := true, laidLooks := .later }
def ShaEdgesCardSaid : Prop := Claim7.holds Tryd.pinned (.plain (OpenSpec.ofChange shaEdgesSpec)) shaEdgesCard

/-- THE TIED CARD OF 'cincturelaw17.ShaHex'. -/
def shaHexCard : Claim7 := { stood := { row := shaHexRow, standIns := [], harness := (true, "1d1e348f2d401eb312f3c23ab06e41d56d7a4967ec80dc6ff63abbc8d8e180da"), looks := false }, kinds := [], alts := [], laidByText := true, laidKinds := [.data], laidTests := true, laidLooks := .later }
def ShaHexCardSaid : Prop := Claim7.holds Tryd.pinned (.plain (OpenSpec.ofChange shaHexSpec)) shaHexCard

/-- THE TIED CARD OF 'cincturelaw21.SegTells'. -/
def segTellsCard : Claim7 := { stood := { row := segTellsRow, standIns := [], harness := (true, "1d1e348f2d401eb312f3c23ab06e41d56d7a4967ec80dc6ff63abbc8d8e180da"), looks := false }, kinds := [], alts := [], laidByText := true, laidKinds := [.data], laidTests := true, laidLooks := .later }
def SegTellsCardSaid : Prop := Claim7.holds Tryd.pinned (.plain (OpenSpec.ofChange segTellsSpec)) segTellsCard

/-- THE TIED CARD OF 'cincturelaw21.SegGets'. -/
def segGetsCard : Claim7 := { stood := { row := segGetsRow, standIns := [], harness := (true, "1d1e348f2d401eb312f3c23ab06e41d56d7a4967ec80dc6ff63abbc8d8e180da"), looks := false }, kinds := [], alts := [], laidByText := true, laidKinds := [.data], laidTests := true, laidLooks := .later }
def SegGetsCardSaid : Prop := Claim7.holds Tryd.pinned (.plain (OpenSpec.ofChange segGetsSpec)) segGetsCard

/-- THE TIED CARD OF 'cincturelaw22.FeedPieces'. -/
def feedPiecesCard : Claim7 := { stood := { row := feedPiecesRow, standIns := [], harness := (true, "1d1e348f2d401eb312f3c23ab06e41d56d7a4967ec80dc6ff63abbc8d8e180da"), looks := false }, kinds := [], alts := [], laidByText := true, laidKinds := [.data], laidTests := true, laidLooks := .later }
def FeedPiecesCardSaid : Prop := Claim7.holds Tryd.pinned (.plain (OpenSpec.ofChange feedPiecesSpec)) feedPiecesCard

/-- THE TIED CARD OF 'cincturelaw22.FeedPlays'. -/
def feedPlaysCard : Claim7 := { stood := { row := feedPlaysRow, standIns := [], harness := (true, "1d1e348f2d401eb312f3c23ab06e41d56d7a4967ec80dc6ff63abbc8d8e180da"), looks := false }, kinds := [], alts := [], laidByText := true, laidKinds := [.data], laidTests := true, laidLooks := .later }
def FeedPlaysCardSaid : Prop := Claim7.holds Tryd.pinned (.plain (OpenSpec.ofChange feedPlaysSpec)) feedPlaysCard

/-- THE TIED CARD OF 'cincturelaw22.FeedNone'. -/
def feedNoneCard : Claim7 := { stood := { row := feedNoneRow, standIns := [], harness := (true, "1d1e348f2d401eb312f3c23ab06e41d56d7a4967ec80dc6ff63abbc8d8e180da"), looks := false }, kinds := [], alts := [], laidByText := true, laidKinds := [.data], laidTests := true, laidLooks := .later }
def FeedNoneCardSaid : Prop := Claim7.holds Tryd.pinned (.plain (OpenSpec.ofChange feedNoneSpec)) feedNoneCard

/-- THE SECOND FORM's CARD OF 'cincturelaw17.ShaTells'. -/
def shaTellsUptoCard : Claim7 := { stood := { row := shaTellsUptoRow, standIns := [], harness := (true, "1d1e348f2d401eb312f3c23ab06e41d56d7a4967ec80dc6ff63abbc8d8e180da"), looks := false }, kinds := [], alts := [], laidByText := true, laidKinds := [.data], laidTests := true, laidLooks := .later }
def ShaTellsUptoCardSaid : Prop := Claim7.holds Tryd.pinned (.plain (OpenSpec.upto shaTellsSpec)) shaTellsUptoCard

/-- THE SECOND FORM's CARD OF 'cincturelaw17.ShaPieces'. -/
def shaPiecesUptoCard : Claim7 := { stood := { row := shaPiecesUptoRow, standIns := [], harness := (true, "1d1e348f2d401eb312f3c23ab06e41d56d7a4967ec80dc6ff63abbc8d8e180da"), looks := false }, kinds := [], alts := [], laidByText := true, laidKinds := [.data], laidTests := true, laidLooks := .later }
def ShaPiecesUptoCardSaid : Prop := Claim7.holds Tryd.pinned (.plain (OpenSpec.upto shaPiecesSpec)) shaPiecesUptoCard

/-- THE SECOND FORM's CARD OF 'cincturelaw17.ShaEdges'. -/
def shaEdgesUptoCard : Claim7 := { stood := { row := shaEdgesUptoRow, standIns := [], harness := (true, "1d1e348f2d401eb312f3c23ab06e41d56d7a4967ec80dc6ff63abbc8d8e180da"), looks := false }, kinds := [], alts := [], laidByText := true, laidKinds := [.data], laidTests := true, laidLooks := .later }
def ShaEdgesUptoCardSaid : Prop := Claim7.holds Tryd.pinned (.plain (OpenSpec.upto shaEdgesSpec)) shaEdgesUptoCard

/-- THE SECOND FORM's CARD OF 'cincturelaw17.ShaHex'. -/
def shaHexUptoCard : Claim7 := { stood := { row := shaHexUptoRow, standIns := [], harness := (true, "1d1e348f2d401eb312f3c23ab06e41d56d7a4967ec80dc6ff63abbc8d8e180da"), looks := false }, kinds := [], alts := [], laidByText := true, laidKinds := [.data], laidTests := true, laidLooks := .later }
def ShaHexUptoCardSaid : Prop := Claim7.holds Tryd.pinned (.plain (OpenSpec.upto shaHexSpec)) shaHexUptoCard

/-- THE SECOND FORM's CARD OF 'cincturelaw21.SegTells'. -/
def segTellsUptoCard : Claim7 := { stood := { row := segTellsUptoRow, standIns := [], harness := (true, "1d1e348f2d401eb312f3c23ab06e41d56d7a4967ec80dc6ff63abbc8d8e180da"), looks := false }, kinds := [], alts := [], laidByText := true, laidKinds := [.data], laidTests := true, laidLooks := .later }
def SegTellsUptoCardSaid : Prop := Claim7.holds Tryd.pinned (.plain (OpenSpec.upto segTellsSpec)) segTellsUptoCard

/-- THE SECOND FORM's CARD OF 'cincturelaw21.SegGets'. -/
def segGetsUptoCard : Claim7 := { stood := { row := segGetsUptoRow, standIns := [], harness := (true, "1d1e348f2d401eb312f3c23ab06e41d56d7a4967ec80dc6ff63abbc8d8e180da"), looks := false }, kinds := [], alts := [], laidByText := true, laidKinds := [.data], laidTests := true, laidLooks := .later }
def SegGetsUptoCardSaid : Prop := Claim7.holds Tryd.pinned (.plain (OpenSpec.upto segGetsSpec)) segGetsUptoCard

/-- THE SECOND FORM's CARD OF 'cincturelaw22.FeedPieces'. -/
def feedPiecesUptoCard : Claim7 := { stood := { row := feedPiecesUptoRow, standIns := [], harness := (true, "1d1e348f2d401eb312f3c23ab06e41d56d7a4967ec80dc6ff63abbc8d8e180da"), looks := false }, kinds := [], alts := [], laidByText := true, laidKinds := [.data], laidTests := true, laidLooks := .later }
def FeedPiecesUptoCardSaid : Prop := Claim7.holds Tryd.pinned (.plain (OpenSpec.upto feedPiecesSpec)) feedPiecesUptoCard

/-- THE SECOND FORM's CARD OF 'cincturelaw22.FeedPlays'. -/
def feedPlaysUptoCard : Claim7 := { stood := { row := feedPlaysUptoRow, standIns := [], harness := (true, "1d1e348f2d401eb312f3c23ab06e41d56d7a4967ec80dc6ff63abbc8d8e180da"), looks := false }, kinds := [], alts := [], laidByText := true, laidKinds := [.data], laidTests := true, laidLooks := .later }
def FeedPlaysUptoCardSaid : Prop := Claim7.holds Tryd.pinned (.plain (OpenSpec.upto feedPlaysSpec)) feedPlaysUptoCard

/-- THE SECOND FORM's CARD OF 'cincturelaw22.FeedNone'. -/
def feedNoneUptoCard : Claim7 := { stood := { row := feedNoneUptoRow, standIns := [], harness := (true, "1d1e348f2d401eb312f3c23ab06e41d56d7a4967ec80dc6ff63abbc8d8e180da"), looks := false }, kinds := [], alts := [], laidByText := true, laidKinds := [.data], laidTests := true, laidLooks := .later }
def FeedNoneUptoCardSaid : Prop := Claim7.holds Tryd.pinned (.plain (OpenSpec.upto feedNoneSpec)) feedNoneUptoCard
end Rows
end Go.Proofs.YtpobbfhdkbnpmaaDoor
