/-
  DERIVED. GIVEN WITH THE SEED: THE CARDS: each row of YtbgbdoljnomakaaGreatDoorRows.lean that lists a variable, with what it lists TIED to the program's text (the seventh form; the later family's looks); each row that meets fmt, with fmt's text TOLD by the authors' own Lean function (tested against real Go, not proved from fmt's source: count such statements apart). THE CARD IS WHAT COUNTS. Prove the row's statement (the work); the ties are given (YtbgbdoljnomakaaGreatDoorTie.lean); close each card by the builder's one call (the guide's Derived/Test/ToyasCard.lean, 'card_holds'). Laid BY PROGRAM, IN A SANDBOX (cutbox-door.mjs). By AI agents, Wed Nov 11 2026. No macro, syntax, notation, axiom, sorry.
-/
import Derived.Test.YtbgbdoljnomakaaGreatDoorRows
import GoSem.ClaimSeven
namespace Go.Proofs.YtbgbdoljnomakaaGreatDoor
namespace Rows

/-- THE TIED CARD OF 'calquelaw54.BundleNil'. -/
def bundleNilCard : Claim7 := { stood := { row := bundleNilRow, standIns := [], harness := (true, "ee7f0c8761e0bc1d678bb65f1d7ad23decd6107981a8756267086a98e58cda75"), looks := true }, kinds := [], alts := [], laidByText := true, laidKinds := [.pinned, .data, .data, .data, .data, .sentinel, .sentinel], laidTests := true, laidLooks := .later }
def BundleNilCardSaid : Prop := Claim7.holds Tryz.pinned (.plain (OpenSpec.ofChange bundleNilSpec)) bundleNilCard

/-- THE SECOND FORM's CARD OF 'calquelaw54.BundleNil'. -/
def bundleNilUptoCard : Claim7 := { stood := { row := bundleNilUptoRow, standIns := [], harness := (true, "ee7f0c8761e0bc1d678bb65f1d7ad23decd6107981a8756267086a98e58cda75"), looks := true }, kinds := [], alts := [], laidByText := true, laidKinds := [.pinned, .data, .data, .data, .data, .sentinel, .sentinel], laidTests := true, laidLooks := .later }
def BundleNilUptoCardSaid : Prop := Claim7.holds Tryz.pinned (.plain (OpenSpec.upto bundleNilSpec)) bundleNilUptoCard
end Rows
end Go.Proofs.YtbgbdoljnomakaaGreatDoor
