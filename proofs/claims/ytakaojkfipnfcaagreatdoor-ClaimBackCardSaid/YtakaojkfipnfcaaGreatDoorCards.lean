/-
  DERIVED. GIVEN WITH THE SEED: THE CARDS: each row of YtakaojkfipnfcaaGreatDoorRows.lean that lists a variable, with what it lists TIED to the program's text (the seventh form; the later family's looks); each row that meets fmt, with fmt's text TOLD by the authors' own Lean function (tested against real Go, not proved from fmt's source: count such statements apart). THE CARD IS WHAT COUNTS. Prove the row's statement (the work); the ties are given (YtakaojkfipnfcaaGreatDoorTie.lean); close each card by the builder's one call (the guide's Derived/Test/ToyasCard.lean, 'card_holds'). Laid BY PROGRAM, IN A SANDBOX (cutbox-door.mjs). By AI agents, Wed Nov 11 2026. No macro, syntax, notation, axiom, sorry.
-/
import Derived.Test.YtakaojkfipnfcaaGreatDoorRows
import GoSem.ClaimSeven
namespace Go.Proofs.YtakaojkfipnfcaaGreatDoor
namespace Rows

/-- THE TIED CARD OF 'cincturelaw19.ClaimFields'. -/
def claimFieldsCard : Claim7 := { stood := { row := claimFieldsRow, standIns := [], harness := (true, "1a85490fe1c2538f88ef6d3417782a6ee8ddfa54859fa6ff6d93ebc6b6f799fe"), looks := false }, kinds := [], alts := [], laidByText := true, laidKinds := [.data], laidTests := true, laidLooks := .later }
def ClaimFieldsCardSaid : Prop := Claim7.holds Tryz.pinned (.plain (OpenSpec.ofChange claimFieldsSpec)) claimFieldsCard

/-- THE TIED CARD OF 'cincturelaw19.ClaimTells'. -/
def claimTellsCard : Claim7 := { stood := { row := claimTellsRow, standIns := [], harness := (true, "1a85490fe1c2538f88ef6d3417782a6ee8ddfa54859fa6ff6d93ebc6b6f799fe"), looks := false }, kinds := [], alts := [], laidByText := true, laidKinds := [.data], laidTests := true, laidLooks := .later }
def ClaimTellsCardSaid : Prop := Claim7.holds Tryz.pinned (.plain (OpenSpec.ofChange claimTellsSpec)) claimTellsCard

/-- THE TIED CARD OF 'cincturelaw19.ClaimBoxes'. -/
def claimBoxesCard : Claim7 := { stood := { row := claimBoxesRow, standIns := [], harness := (true, "1a85490fe1c2538f88ef6d3417782a6ee8ddfa54859fa6ff6d93ebc6b6f799fe"), looks := false }, kinds := [], alts := [], laidByText := true, laidKinds := [.data], laidTests := true, laidLooks := .later }
def ClaimBoxesCardSaid : Prop := Claim7.holds Tryz.pinned (.plain (OpenSpec.ofChange claimBoxesSpec)) claimBoxesCard

/-- THE TIED CARD OF 'cincturelaw19.ClaimPolys'. -/
def claimPolysCard : Claim7 := { stood := { row := claimPolysRow, standIns := [], harness := (true, "1a85490fe1c2538f88ef6d3417782a6ee8ddfa54859fa6ff6d93ebc6b6f799fe"), looks := false }, kinds := [], alts := [], laidByText := true, laidKinds := [.data], laidTests := true, laidLooks := .later }
def ClaimPolysCardSaid : Prop := Claim7.holds Tryz.pinned (.plain (OpenSpec.ofChange claimPolysSpec)) claimPolysCard

/-- THE TIED CARD OF 'cincturelaw19.ClaimReads'. -/
def claimReadsCard : Claim7 := { stood := { row := claimReadsRow, standIns := [], harness := (true, "1a85490fe1c2538f88ef6d3417782a6ee8ddfa54859fa6ff6d93ebc6b6f799fe"), looks := false }, kinds := [], alts := [], laidByText := true, laidKinds := [.data], laidTests := true, laidLooks := .later }
def ClaimReadsCardSaid : Prop := Claim7.holds Tryz.pinned (.plain (OpenSpec.ofChange claimReadsSpec)) claimReadsCard

/-- THE TIED CARD OF 'cincturelaw19.ClaimBack'. -/
def claimBackCard : Claim7 := { stood := { row := claimBackRow, standIns := [], harness := (true, "1a85490fe1c2538f88ef6d3417782a6ee8ddfa54859fa6ff6d93ebc6b6f799fe"), looks := false }, kinds := [], alts := [], laidByText := true, laidKinds := [.data], laidTests := true, laidLooks := .later }
def ClaimBackCardSaid : Prop := Claim7.holds Tryz.pinned (.plain (OpenSpec.ofChange claimBackSpec)) claimBackCard

/-- THE TIED CARD OF 'cincturelaw19.ClaimOnce'. -/
def claimOnceCard : Claim7 := { stood := { row := claimOnceRow, standIns := [], harness := (true, "1a85490fe1c2538f88ef6d3417782a6ee8ddfa54859fa6ff6d93ebc6b6f799fe"), looks := false }, kinds := [], alts := [], laidByText := true, laidKinds := [.data], laidTests := true, laidLooks := .later }
def ClaimOnceCardSaid : Prop := Claim7.holds Tryz.pinned (.plain (OpenSpec.ofChange claimOnceSpec)) claimOnceCard

/-- THE TIED CARD OF 'cincturelaw19.ClaimCuts'. -/
def claimCutsCard : Claim7 := { stood := { row := claimCutsRow, standIns := [], harness := (true, "1a85490fe1c2538f88ef6d3417782a6ee8ddfa54859fa6ff6d93ebc6b6f799fe"), looks := false }, kinds := [], alts := [], laidByText := true, laidKinds := [.data], laidTests := true, laidLooks := .later }
def ClaimCutsCardSaid : Prop := Claim7.holds Tryz.pinned (.plain (OpenSpec.ofChange claimCutsSpec)) claimCutsCard

/-- THE TIED CARD OF 'cincturelaw19.ClaimLimits'. -/
def claimLimitsCard : Claim7 := { stood := { row := claimLimitsRow, standIns := [], harness := (true, "1a85490fe1c2538f88ef6d3417782a6ee8ddfa54859fa6ff6d93ebc6b6f799fe"), looks := false }, kinds := [], alts := [], laidByText := true, laidKinds := [.data], laidTests := true, laidLooks := .later }
def ClaimLimitsCardSaid : Prop := Claim7.holds Tryz.pinned (.plain (OpenSpec.ofChange claimLimitsSpec)) claimLimitsCard

/-- THE SECOND FORM's CARD OF 'cincturelaw19.ClaimFields'. -/
def claimFieldsUptoCard : Claim7 := { stood := { row := claimFieldsUptoRow, standIns := [], harness := (true, "1a85490fe1c2538f88ef6d3417782a6ee8ddfa54859fa6ff6d93ebc6b6f799fe"), looks := false }, kinds := [], alts := [], laidByText := true, laidKinds := [.data], laidTests := true, laidLooks := .later }
def ClaimFieldsUptoCardSaid : Prop := Claim7.holds Tryz.pinned (.plain (OpenSpec.upto claimFieldsSpec)) claimFieldsUptoCard

/-- THE SECOND FORM's CARD OF 'cincturelaw19.ClaimTells'. -/
def claimTellsUptoCard : Claim7 := { stood := { row := claimTellsUptoRow, standIns := [], harness := (true, "1a85490fe1c2538f88ef6d3417782a6ee8ddfa54859fa6ff6d93ebc6b6f799fe"), looks := false }, kinds := [], alts := [], laidByText := true, laidKinds := [.data], laidTests := true, laidLooks := .later }
def ClaimTellsUptoCardSaid : Prop := Claim7.holds Tryz.pinned (.plain (OpenSpec.upto claimTellsSpec)) claimTellsUptoCard

/-- THE SECOND FORM's CARD OF 'cincturelaw19.ClaimBoxes'. -/
def claimBoxesUptoCard : Claim7 := { stood := { row := claimBoxesUptoRow, standIns := [], harness := (true, "1a85490fe1c2538f88ef6d3417782a6ee8ddfa54859fa6ff6d93ebc6b6f799fe"), looks := false }, kinds := [], alts := [], laidByText := true, laidKinds := [.data], laidTests := true, laidLooks := .later }
def ClaimBoxesUptoCardSaid : Prop := Claim7.holds Tryz.pinned (.plain (OpenSpec.upto claimBoxesSpec)) claimBoxesUptoCard

/-- THE SECOND FORM's CARD OF 'cincturelaw19.ClaimPolys'. -/
def claimPolysUptoCard : Claim7 := { stood := { row := claimPolysUptoRow, standIns := [], harness := (true, "1a85490fe1c2538f88ef6d3417782a6ee8ddfa54859fa6ff6d93ebc6b6f799fe"), looks := false }, kinds := [], alts := [], laidByText := true, laidKinds := [.data], laidTests := true, laidLooks := .later }
def ClaimPolysUptoCardSaid : Prop := Claim7.holds Tryz.pinned (.plain (OpenSpec.upto claimPolysSpec)) claimPolysUptoCard

/-- THE SECOND FORM's CARD OF 'cincturelaw19.ClaimReads'. -/
def claimReadsUptoCard : Claim7 := { stood := { row := claimReadsUptoRow, standIns := [], harness := (true, "1a85490fe1c2538f88ef6d3417782a6ee8ddfa54859fa6ff6d93ebc6b6f799fe"), looks := false }, kinds := [], alts := [], laidByText := true, laidKinds := [.data], laidTests := true, laidLooks := .later }
def ClaimReadsUptoCardSaid : Prop := Claim7.holds Tryz.pinned (.plain (OpenSpec.upto claimReadsSpec)) claimReadsUptoCard

/-- THE SECOND FORM's CARD OF 'cincturelaw19.ClaimBack'. -/
def claimBackUptoCard : Claim7 := { stood := { row := claimBackUptoRow, standIns := [], harness := (true, "1a85490fe1c2538f88ef6d3417782a6ee8ddfa54859fa6ff6d93ebc6b6f799fe"), looks := false }, kinds := [], alts := [], laidByText := true, laidKinds := [.data], laidTests := true, laidLooks := .later }
def ClaimBackUptoCardSaid : Prop := Claim7.holds Tryz.pinned (.plain (OpenSpec.upto claimBackSpec)) claimBackUptoCard

/-- THE SECOND FORM's CARD OF 'cincturelaw19.ClaimOnce'. -/
def claimOnceUptoCard : Claim7 := { stood := { row := claimOnceUptoRow, standIns := [], harness := (true, "1a85490fe1c2538f88ef6d3417782a6ee8ddfa54859fa6ff6d93ebc6b6f799fe"), looks := false }, kinds := [], alts := [], laidByText := true, laidKinds := [.data], laidTests := true, laidLooks := .later }
def ClaimOnceUptoCardSaid : Prop := Claim7.holds Tryz.pinned (.plain (OpenSpec.upto claimOnceSpec)) claimOnceUptoCard

/-- THE SECOND FORM's CARD OF 'cincturelaw19.ClaimCuts'. -/
def claimCutsUptoCard : Claim7 := { stood := { row := claimCutsUptoRow, standIns := [], harness := (true, "1a85490fe1c2538f88ef6d3417782a6ee8ddfa54859fa6ff6d93ebc6b6f799fe"), looks := false }, kinds := [], alts := [], laidByText := true, laidKinds := [.data], laidTests := true, laidLooks := .later }
def ClaimCutsUptoCardSaid : Prop := Claim7.holds Tryz.pinned (.plain (OpenSpec.upto claimCutsSpec)) claimCutsUptoCard

/-- THE SECOND FORM's CARD OF 'cincturelaw19.ClaimLimits'. -/
def claimLimitsUptoCard : Claim7 := { stood := { row := claimLimitsUptoRow, standIns := [], harness := (true, "1a85490fe1c2538f88ef6d3417782a6ee8ddfa54859fa6ff6d93ebc6b6f799fe"), looks := false }, kinds := [], alts := [], laidByText := true, laidKinds := [.data], laidTests := true, laidLooks := .later }
def ClaimLimitsUptoCardSaid : Prop := Claim7.holds Tryz.pinned (.plain (OpenSpec.upto claimLimitsSpec)) claimLimitsUptoCard
end Rows
end Go.Proofs.YtakaojkfipnfcaaGreatDoor
