/-
  DERIVED. GIVEN WITH THE SEED: THE CARDS: each row of YtlhpflilpdceiaaGreatDoorRows.lean that lists a variable, with what it lists TIED to the program's text (the seventh form; the later family's looks); each row that meets fmt, with fmt's text TOLD by the authors' own Lean function (tested against real Go, not proved from fmt's source: count such statements apart). THE CARD IS WHAT COUNTS. Prove the row's statement (the work); the ties are given (YtlhpflilpdceiaaGreatDoorTie.lean); close each card by the builder's one call (the guide's Derived/Test/ToyasCard.lean, 'card_holds'). Laid BY PROGRAM, IN A SANDBOX (cutbox-door.mjs). By AI agents, Wed Nov 11 2026. No macro, syntax, notation, axiom, sorry.
-/
import Derived.Test.YtlhpflilpdceiaaGreatDoorRows
import GoSem.ClaimSeven
namespace Go.Proofs.YtlhpflilpdceiaaGreatDoor
namespace Rows

/-- THE TIED CARD OF 'patoislaw3.ListsSay'. -/
def listsSayCard : Claim7 := { stood := { row := listsSayRow, standIns := [], harness := (true, "29b85ccfd7938a232d7cae400317cdf9dfb6b83a3655231953c145627cbd9b53"), looks := true }, kinds := [], alts := [], laidByText := true, laidKinds := [.data, .data, .data, .data, .sentinel, .sentinel, .sentinel, .sentinel, .sentinel, .sentinel, .sentinel, .sentinel, .sentinel, .sentinel, .sentinel, .sentinel, .sentinel, .sentinel, .sentinel, .sentinel, .sentinel, .pinned], laidTests := true, laidLooks := .later }
def ListsSayCardSaid : Prop := Claim7.holds Tryz.pinned (.plain (OpenSpec.ofChange listsSaySpec)) listsSayCard

/-- THE SECOND FORM's CARD OF 'patoislaw3.ListsSay'. -/
def listsSayUptoCard : Claim7 := { stood := { row := listsSayUptoRow, standIns := [], harness := (true, "29b85ccfd7938a232d7cae400317cdf9dfb6b83a3655231953c145627cbd9b53"), looks := true }, kinds := [], alts := [], laidByText := true, laidKinds := [.data, .data, .data, .data, .sentinel, .sentinel, .sentinel, .sentinel, .sentinel, .sentinel, .sentinel, .sentinel, .sentinel, .sentinel, .sentinel, .sentinel, .sentinel, .sentinel, .sentinel, .sentinel, .sentinel, .pinned], laidTests := true, laidLooks := .later }
def ListsSayUptoCardSaid : Prop := Claim7.holds Tryz.pinned (.plain (OpenSpec.upto listsSaySpec)) listsSayUptoCard
end Rows
end Go.Proofs.YtlhpflilpdceiaaGreatDoor
