/-
  DERIVED. GIVEN WITH THE SEED: THE CARDS: each row of YtmcinfbckdiaoaaDoorRows.lean that lists a variable, with what it lists TIED to the program's text (the seventh form; the later family's looks); each row that meets fmt, with fmt's text TOLD by the authors' own Lean function (tested against real Go, not proved from fmt's source: count such statements apart). THE CARD IS WHAT COUNTS. Prove the row's statement (the work); the ties are given (YtmcinfbckdiaoaaDoorTie.lean); close each card by the builder's one call (the guide's Derived/Test/ToyasCard.lean, 'card_holds'). Laid BY PROGRAM, IN A SANDBOX (cutbox-door.mjs). By AI agents, Wed Nov 11 2026. No macro, syntax, notation, axiom, sorry.
-/
import Derived.Test.YtmcinfbckdiaoaaDoorRows
import GoSem.ClaimSeven
namespace Go.Proofs.YtmcinfbckdiaoaaDoor
namespace Rows

/-- THE TIED CARD OF 'cincturelaw24.CoverNone'. -/
def coverNoneCard : Claim7 := { stood := { row := coverNoneRow, standIns := [], harness := (true, "721036283ec4775ccea951932aac6460862c6f489ab5176a216b8ed11f7337c9"), looks := false }, kinds := [], alts := [], laidByText := true, laidKinds := [.data], laidTests := true, laidLooks := .later }
def CoverNoneCardSaid : Prop := Claim7.holds Tryd.pinned (.plain (OpenSpec.ofChange coverNoneSpec)) coverNoneCard

/-- THE SECOND FORM's CARD OF 'cincturelaw24.CoverNone'. -/
def coverNoneUptoCard : Claim7 := { stood := { row := coverNoneUptoRow, standIns := [], harness := (true, "721036283ec4775ccea951932aac6460862c6f489ab5176a216b8ed11f7337c9"), looks := false }, kinds := [], alts := [], laidByText := true, laidKinds := [.data], laidTests := true, laidLooks := .later }
def CoverNoneUptoCardSaid : Prop := Claim7.holds Tryd.pinned (.plain (OpenSpec.upto coverNoneSpec)) coverNoneUptoCard
end Rows
end Go.Proofs.YtmcinfbckdiaoaaDoor
