/-
  DERIVED. GIVEN WITH THE SEED: THE CARDS: each row of YtpmehdggikjkfaaGreatDoorRows.lean that lists a variable, with what it lists TIED to the program's text (the seventh form; the later family's looks); each row that meets fmt, with fmt's text TOLD by the authors' own Lean function (tested against real Go, not proved from fmt's source: count such statements apart). THE CARD IS WHAT COUNTS. Prove the row's statement (the work); the ties are given (YtpmehdggikjkfaaGreatDoorTie.lean); close each card by the builder's one call (the guide's Derived/Test/ToyasCard.lean, 'card_holds'). Laid BY PROGRAM, IN A SANDBOX (cutbox-door.mjs). By AI agents, Wed Nov 11 2026. No macro, syntax, notation, axiom, sorry.
-/
import Derived.Test.YtpmehdggikjkfaaGreatDoorRows
import GoSem.ClaimSeven
namespace Go.Proofs.YtpmehdggikjkfaaGreatDoor
namespace Rows

/-- THE TIED CARD OF 'sluicewaytop.TopNames'. -/
def topNamesCard : Claim7 := { stood := { row := topNamesRow, standIns := [], harness := (true, "ebf07aeb0e327b52d2403dd6512a7df12fd4725ff5c2bff6b0f03b8c6d6d0e51"), looks := true }, kinds := [], alts := [], laidByText := true, laidKinds := [.data, .data, .data, .sentinel, .sentinel, .data], laidTests := true, laidLooks := .later }
def TopNamesCardSaid : Prop := Claim7.holds Tryz.pinned (.plain (OpenSpec.ofChange topNamesSpec)) topNamesCard

/-- THE SECOND FORM's CARD OF 'sluicewaytop.TopNames'. -/
def topNamesUptoCard : Claim7 := { stood := { row := topNamesUptoRow, standIns := [], harness := (true, "ebf07aeb0e327b52d2403dd6512a7df12fd4725ff5c2bff6b0f03b8c6d6d0e51"), looks := true }, kinds := [], alts := [], laidByText := true, laidKinds := [.data, .data, .data, .sentinel, .sentinel, .data], laidTests := true, laidLooks := .later }
def TopNamesUptoCardSaid : Prop := Claim7.holds Tryz.pinned (.plain (OpenSpec.upto topNamesSpec)) topNamesUptoCard
end Rows
end Go.Proofs.YtpmehdggikjkfaaGreatDoor
