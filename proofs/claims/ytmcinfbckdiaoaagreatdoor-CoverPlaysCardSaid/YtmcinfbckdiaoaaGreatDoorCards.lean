/-
  DERIVED. GIVEN WITH THE SEED: THE CARDS: each row of YtmcinfbckdiaoaaGreatDoorRows.lean that lists a variable, with what it lists TIED to the program's text (the seventh form; the later family's looks); each row that meets fmt, with fmt's text TOLD by the authors' own Lean function (tested against real Go, not proved from fmt's source: count such statements apart). THE CARD IS WHAT COUNTS. Prove the row's statement (the work); the ties are given (YtmcinfbckdiaoaaGreatDoorTie.lean); close each card by the builder's one call (the guide's Derived/Test/ToyasCard.lean, 'card_holds'). Laid BY PROGRAM, IN A SANDBOX (cutbox-door.mjs). By AI agents, Wed Nov 11 2026. No macro, syntax, notation, axiom, sorry.
-/
import Derived.Test.YtmcinfbckdiaoaaGreatDoorRows
import GoSem.ClaimSeven
namespace Go.Proofs.YtmcinfbckdiaoaaGreatDoor
namespace Rows

/-- THE TIED CARD OF 'cincturelaw6.BoxWidest'. -/
def boxWidestCard : Claim7 := { stood := { row := boxWidestRow, standIns := [], harness := (true, "d6bea5f00ba1bbad52ebf4692fb6531c25b1264352738d4727ea9c13f5ebcd42"), looks := false }, kinds := [], alts := [], laidByText := true, laidKinds := [.data], laidTests := true, laidLooks := .later }
def BoxWidestCardSaid : Prop := Claim7.holds Tryz.pinned (.plain (OpenSpec.ofChange boxWidestSpec)) boxWidestCard

/-- THE TIED CARD OF 'cincturelaw6.BoxTells'. -/
def boxTellsCard : Claim7 := { stood := { row := boxTellsRow, standIns := [], harness := (true, "d6bea5f00ba1bbad52ebf4692fb6531c25b1264352738d4727ea9c13f5ebcd42"), looks := false }, kinds := [], alts := [], laidByText := true, laidKinds := [.data], laidTests := true, laidLooks := .later }
def BoxTellsCardSaid : Prop := Claim7.holds Tryz.pinned (.plain (OpenSpec.ofChange boxTellsSpec)) boxTellsCard

/-- THE TIED CARD OF 'cincturelaw24.CoverCounts'. -/
def coverCountsCard : Claim7 := { stood := { row := coverCountsRow, standIns := [], harness := (true, "d6bea5f00ba1bbad52ebf4692fb6531c25b1264352738d4727ea9c13f5ebcd42"), looks := false }, kinds := [], alts := [], laidByText := true, laidKinds := [.data], laidTests := true, laidLooks := .later }
def CoverCountsCardSaid : Prop := Claim7.holds Tryz.pinned (.plain (OpenSpec.ofChange coverCountsSpec)) coverCountsCard

/-- THE TIED CARD OF 'cincturelaw6.BoxSplits'. -/
def boxSplitsCard : Claim7 := { stood := { row := boxSplitsRow, standIns := [], harness := (true, "d6bea5f00ba1bbad52ebf4692fb6531c25b1264352738d4727ea9c13f5ebcd42"), looks := false }, kinds := [], alts := [], laidByText := true, laidKinds := [.data], laidTests := true, laidLooks := .later }
def BoxSplitsCardSaid : Prop := Claim7.holds Tryz.pinned (.plain (OpenSpec.ofChange boxSplitsSpec)) boxSplitsCard

/-- THE TIED CARD OF 'cincturelaw6.BoxSets'. -/
def boxSetsCard : Claim7 := { stood := { row := boxSetsRow, standIns := [], harness := (true, "d6bea5f00ba1bbad52ebf4692fb6531c25b1264352738d4727ea9c13f5ebcd42"), looks := false }, kinds := [], alts := [], laidByText := true, laidKinds := [.data], laidTests := true, laidLooks := .later }
def BoxSetsCardSaid : Prop := Claim7.holds Tryz.pinned (.plain (OpenSpec.ofChange boxSetsSpec)) boxSetsCard

/-- THE TIED CARD OF 'cincturelaw24.CoverPlays'. -/
def coverPlaysCard : Claim7 := { stood := { row := coverPlaysRow, standIns := [], harness := (true, "d6bea5f00ba1bbad52ebf4692fb6531c25b1264352738d4727ea9c13f5ebcd42"), looks := false }, kinds := [], alts := [], laidByText := true, laidKinds := [.data], laidTests := true, laidLooks := .later }
def CoverPlaysCardSaid : Prop := Claim7.holds Tryz.pinned (.plain (OpenSpec.ofChange coverPlaysSpec)) coverPlaysCard

/-- THE TIED CARD OF 'cincturelaw6.BoxCovers'. -/
def boxCoversCard : Claim7 := { stood := { row := boxCoversRow, standIns := [], harness := (true, "d6bea5f00ba1bbad52ebf4692fb6531c25b1264352738d4727ea9c13f5ebcd42"), looks := false }, kinds := [], alts := [], laidByText := true, laidKinds := [.data], laidTests := true, laidLooks := .later }
def BoxCoversCardSaid : Prop := Claim7.holds Tryz.pinned (.plain (OpenSpec.ofChange boxCoversSpec)) boxCoversCard

/-- THE TIED CARD OF 'cincturelaw6.BoxParts'. -/
def boxPartsCard : Claim7 := { stood := { row := boxPartsRow, standIns := [], harness := (true, "d6bea5f00ba1bbad52ebf4692fb6531c25b1264352738d4727ea9c13f5ebcd42"), looks := false }, kinds := [], alts := [], laidByText := true, laidKinds := [.data], laidTests := true, laidLooks := .later }
def BoxPartsCardSaid : Prop := Claim7.holds Tryz.pinned (.plain (OpenSpec.ofChange boxPartsSpec)) boxPartsCard

/-- THE TIED CARD OF 'cincturelaw24.CoverWhole'. -/
def coverWholeCard : Claim7 := { stood := { row := coverWholeRow, standIns := [], harness := (true, "d6bea5f00ba1bbad52ebf4692fb6531c25b1264352738d4727ea9c13f5ebcd42"), looks := false }, kinds := [], alts := [], laidByText := true, laidKinds := [.data], laidTests := true, laidLooks := .later }
def CoverWholeCardSaid : Prop := Claim7.holds Tryz.pinned (.plain (OpenSpec.ofChange coverWholeSpec)) coverWholeCard

/-- THE SECOND FORM's CARD OF 'cincturelaw6.BoxWidest'. -/
def boxWidestUptoCard : Claim7 := { stood := { row := boxWidestUptoRow, standIns := [], harness := (true, "d6bea5f00ba1bbad52ebf4692fb6531c25b1264352738d4727ea9c13f5ebcd42"), looks := false }, kinds := [], alts := [], laidByText := true, laidKinds := [.data], laidTests := true, laidLooks := .later }
def BoxWidestUptoCardSaid : Prop := Claim7.holds Tryz.pinned (.plain (OpenSpec.upto boxWidestSpec)) boxWidestUptoCard

/-- THE SECOND FORM's CARD OF 'cincturelaw6.BoxTells'. -/
def boxTellsUptoCard : Claim7 := { stood := { row := boxTellsUptoRow, standIns := [], harness := (true, "d6bea5f00ba1bbad52ebf4692fb6531c25b1264352738d4727ea9c13f5ebcd42"), looks := false }, kinds := [], alts := [], laidByText := true, laidKinds := [.data], laidTests := true, laidLooks := .later }
def BoxTellsUptoCardSaid : Prop := Claim7.holds Tryz.pinned (.plain (OpenSpec.upto boxTellsSpec)) boxTellsUptoCard

/-- THE SECOND FORM's CARD OF 'cincturelaw24.CoverCounts'. -/
def coverCountsUptoCard : Claim7 := { stood := { row := coverCountsUptoRow, standIns := [], harness := (true, "d6bea5f00ba1bbad52ebf4692fb6531c25b1264352738d4727ea9c13f5ebcd42"), looks := false }, kinds := [], alts := [], laidByText := true, laidKinds := [.data], laidTests := true, laidLooks := .later }
def CoverCountsUptoCardSaid : Prop := Claim7.holds Tryz.pinned (.plain (OpenSpec.upto coverCountsSpec)) coverCountsUptoCard

/-- THE SECOND FORM's CARD OF 'cincturelaw6.BoxSplits'. -/
def boxSplitsUptoCard : Claim7 := { stood := { row := boxSplitsUptoRow, standIns := [], harness := (true, "d6bea5f00ba1bbad52ebf4692fb6531c25b1264352738d4727ea9c13f5ebcd42"), looks := false }, kinds := [], alts := [], laidByText := true, laidKinds := [.data], laidTests := true, laidLooks := .later }
def BoxSplitsUptoCardSaid : Prop := Claim7.holds Tryz.pinned (.plain (OpenSpec.upto boxSplitsSpec)) boxSplitsUptoCard

/-- THE SECOND FORM's CARD OF 'cincturelaw6.BoxSets'. -/
def boxSetsUptoCard : Claim7 := { stood := { row := boxSetsUptoRow, standIns := [], harness := (true, "d6bea5f00ba1bbad52ebf4692fb6531c25b1264352738d4727ea9c13f5ebcd42"), looks := false }, kinds := [], alts := [], laidByText := true, laidKinds := [.data], laidTests := true, laidLooks := .later }
def BoxSetsUptoCardSaid : Prop := Claim7.holds Tryz.pinned (.plain (OpenSpec.upto boxSetsSpec)) boxSetsUptoCard

/-- THE SECOND FORM's CARD OF 'cincturelaw24.CoverPlays'. -/
def coverPlaysUptoCard : Claim7 := { stood := { row := coverPlaysUptoRow, standIns := [], harness := (true, "d6bea5f00ba1bbad52ebf4692fb6531c25b1264352738d4727ea9c13f5ebcd42"), looks := false }, kinds := [], alts := [], laidByText := true, laidKinds := [.data], laidTests := true, laidLooks := .later }
def CoverPlaysUptoCardSaid : Prop := Claim7.holds Tryz.pinned (.plain (OpenSpec.upto coverPlaysSpec)) coverPlaysUptoCard

/-- THE SECOND FORM's CARD OF 'cincturelaw6.BoxCovers'. -/
def boxCoversUptoCard : Claim7 := { stood := { row := boxCoversUptoRow, standIns := [], harness := (true, "d6bea5f00ba1bbad52ebf4692fb6531c25b1264352738d4727ea9c13f5ebcd42"), looks := false }, kinds := [], alts := [], laidByText := true, laidKinds := [.data], laidTests := true, laidLooks := .later }
def BoxCoversUptoCardSaid : Prop := Claim7.holds Tryz.pinned (.plain (OpenSpec.upto boxCoversSpec)) boxCoversUptoCard

/-- THE SECOND FORM's CARD OF 'cincturelaw6.BoxParts'. -/
def boxPartsUptoCard : Claim7 := { stood := { row := boxPartsUptoRow, standIns := [], harness := (true, "d6bea5f00ba1bbad52ebf4692fb6531c25b1264352738d4727ea9c13f5ebcd42"), looks := false }, kinds := [], alts := [], laidByText := true, laidKinds := [.data], laidTests := true, laidLooks := .later }
def BoxPartsUptoCardSaid : Prop := Claim7.holds Tryz.pinned (.plain (OpenSpec.upto boxPartsSpec)) boxPartsUptoCard

/-- THE SECOND FORM's CARD OF 'cincturelaw24.CoverWhole'. -/
def coverWholeUptoCard : Claim7 := { stood := { row := coverWholeUptoRow, standIns := [], harness := (true, "d6bea5f00ba1bbad52ebf4692fb6531c25b1264352738d4727ea9c13f5ebcd42"), looks := false }, kinds := [], alts := [], laidByText := true, laidKinds := [.data], laidTests := true, laidLooks := .later }
def CoverWholeUptoCardSaid : Prop := Claim7.holds Tryz.pinned (.plain (OpenSpec.upto coverWholeSpec)) coverWholeUptoCard
end Rows
end Go.Proofs.YtmcinfbckdiaoaaGreatDoor
