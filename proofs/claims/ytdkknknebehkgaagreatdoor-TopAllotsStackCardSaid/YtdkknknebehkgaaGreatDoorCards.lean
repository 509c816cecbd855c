/-
  DERIVED. GIVEN WITH THE SEED: THE CARDS: each row of YtdkknknebehkgaaGreatDoorRows.lean that lists a variable, with what it lists TIED to the program's text (the seventh form; the later family's looks); each row that meets fmt, with fmt's text TOLD by the authors' own Lean function (tested against real Go, not proved from fmt's source: count such statements apart). THE CARD IS WHAT COUNTS. Prove the row's statement (the work); the ties are given (YtdkknknebehkgaaGreatDoorTie.lean); close each card by the builder's one call (the guide's Derived/Test/ToyasCard.lean, 'card_holds'). Laid BY PROGRAM, IN A SANDBOX (cutbox-door.mjs). By AI agents, Wed Nov 11 2026. No macro, syntax, notation, axiom, sorry.
-/
import Derived.Test.YtdkknknebehkgaaGreatDoorRows
import GoSem.ClaimSeven
namespace Go.Proofs.YtdkknknebehkgaaGreatDoor
namespace Rows

/-- THE TIED CARD OF 'metrolabtop.TopAllotsStack'. -/
def topAllotsStackCard : Claim7 := { stood := { row := topAllotsStackRow, standIns := [], harness := (true, "6c75c4a47dea69c6ed1cf4cb483e6e5c3110ae12bc7cc54bee4bbabbc7664abc"), looks := false }, kinds := [], alts := [], laidByText := true, laidKinds := [.data, .data, .data], laidTests := true, laidLooks := .later }
def TopAllotsStackCardSaid : Prop := Claim7.holds Tryz.pinned (.plain (OpenSpec.ofChange topAllotsStackSpec)) topAllotsStackCard

/-- THE SECOND FORM's CARD OF 'metrolabtop.TopAllotsStack'. -/
def topAllotsStackUptoCard : Claim7 := { stood := { row := topAllotsStackUptoRow, standIns := [], harness := (true, "6c75c4a47dea69c6ed1cf4cb483e6e5c3110ae12bc7cc54bee4bbabbc7664abc"), looks := false }, kinds := [], alts := [], laidByText := true, laidKinds := [.data, .data, .data], laidTests := true, laidLooks := .later }
def TopAllotsStackUptoCardSaid : Prop := Claim7.holds Tryz.pinned (.plain (OpenSpec.upto topAllotsStackSpec)) topAllotsStackUptoCard
end Rows
end Go.Proofs.YtdkknknebehkgaaGreatDoor
