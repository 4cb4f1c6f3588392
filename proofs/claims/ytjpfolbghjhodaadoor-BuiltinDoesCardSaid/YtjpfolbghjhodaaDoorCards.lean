/-
  DERIVED. GIVEN WITH THE SEED: THE CARDS: each row of YtjpfolbghjhodaaDoorRows.lean that lists a variable, with what it lists TIED to the program's text (the seventh form; the later family's looks); each row that meets fmt, with fmt's text TOLD by the authors' own Lean function (tested against real Go, not proved from fmt's source: count such statements apart). THE CARD IS WHAT COUNTS. Prove the row's statement (the work); the ties are given (YtjpfolbghjhodaaDoorTie.lean); close each card by the builder's one call (the guide's Derived/Test/ToyasCard.lean, 'card_holds'). Laid BY PROGRAM, IN A SANDBOX (cutbox-door.mjs). By AI agents, Wed Nov 11 2026. No macro, syntax, notation, axiom, sorry.
-/
import Derived.Test.YtjpfolbghjhodaaDoorRows
import GoSem.ClaimSeven
namespace Go.Proofs.YtjpfolbghjhodaaDoor
namespace Rows

/-- THE TIED CARD OF 'patoislaw19.InlineOwn'. -/
def inlineOwnCard : Claim7 := { stood := { row := inlineOwnRow, standIns := [], harness := (true, "17670d157e75ab4e94fa35252d3d1f8b55b2453988b6ea78c61ee9a05cfa3c00"), looks := false }, kinds := [], alts := [], laidByText := true, laidKinds := [.sentinel, .sentinel, .sentinel], laidTests := true, laidLooks := .later }
def InlineOwnCardSaid : Prop := Claim7.holds Tryd.pinned (.plain (OpenSpec.ofChange inlineOwnSpec)) inlineOwnCard

/-- THE TIED CARD OF 'patoislaw19.InlineKnown'. -/
def inlineKnownCard : Claim7 := { stood := { row := inlineKnownRow, standIns := [], harness := (true, "17670d157e75ab4e94fa35252d3d1f8b55b2453988b6ea78c61ee9a05cfa3c00"), looks := false }, kinds := [], alts := [], laidByText := true, laidKinds := [.sentinel, .sentinel, .sentinel], laidTests := true, laidLooks := .later }
def InlineKnownCardSaid : Prop := Claim7.holds Tryd.pinned (.plain (OpenSpec.ofChange inlineKnownSpec)) inlineKnownCard

/-- THE TIED CARD OF 'patoislaw19.InlineStays'. -/
def inlineStaysCard : Claim7 := { stood := { row := inlineStaysRow, standIns := [], harness := (true, "17670d157e75ab4e94fa35252d3d1f8b55b2453988b6ea78c61ee9a05cfa3c00"), looks := false }, kinds := [], alts := [], laidByText := true, laidKinds := [.sentinel, .sentinel, .sentinel], laidTests := true, laidLooks := .later }
def InlineStaysCardSaid : Prop := Claim7.holds Tryd.pinned (.plain (OpenSpec.ofChange inlineStaysSpec)) inlineStaysCard

/-- THE TIED CARD OF 'patoislaw8.BuiltinDoes'. -/
def builtinDoesCard : Claim7 := { stood := { row := builtinDoesRow, standIns := [], harness := (true, "17670d157e75ab4e94fa35252d3d1f8b55b2453988b6ea78c61ee9a05cfa3c00"), looks := false }, kinds := [], alts := [], laidByText := true, laidKinds := [.data, .data, .data], laidTests := true, laidLooks := .later }
def BuiltinDoesCardSaid : Prop := Claim7.holds Tryd.pinned (.plain (OpenSpec.ofChange builtinDoesSpec)) builtinDoesCard

/-- THE SECOND FORM's CARD OF 'patoislaw19.InlineOwn'. -/
def inlineOwnUptoCard : Claim7 := { stood := { row := inlineOwnUptoRow, standIns := [], harness := (true, "17670d157e75ab4e94fa35252d3d1f8b55b2453988b6ea78c61ee9a05cfa3c00"), looks := false }, kinds := [], alts := [], laidByText := true, laidKinds := [.sentinel, .sentinel, .sentinel], laidTests := true, laidLooks := .later }
def InlineOwnUptoCardSaid : Prop := Claim7.holds Tryd.pinned (.plain (OpenSpec.upto inlineOwnSpec)) inlineOwnUptoCard

/-- THE SECOND FORM's CARD OF 'patoislaw19.InlineKnown'. -/
def inlineKnownUptoCard : Claim7 := { stood := { row := inlineKnownUptoRow, standIns := [], harness := (true, "17670d157e75ab4e94fa35252d3d1f8b55b2453988b6ea78c61ee9a05cfa3c00"), looks := false }, kinds := [], alts := [], laidByText := true, laidKinds := [.sentinel, .sentinel, .sentinel], laidTests := true, laidLooks := .later }
def InlineKnownUptoCardSaid : Prop := Claim7.holds Tryd.pinned (.plain (OpenSpec.upto inlineKnownSpec)) inlineKnownUptoCard

/-- THE SECOND FORM's CARD OF 'patoislaw19.InlineStays'. -/
def inlineStaysUptoCard : Claim7 := { stood := { row := inlineStaysUptoRow, standIns := [], harness := (true, "17670d157e75ab4e94fa35252d3d1f8b55b2453988b6ea78c61ee9a05cfa3c00"), looks := false }, kinds := [], alts := [], laidByText := true, laidKinds := [.sentinel, .sentinel, .sentinel], laidTests := true, laidLooks := .later }
def InlineStaysUptoCardSaid : Prop := Claim7.holds Tryd.pinned (.plain (OpenSpec.upto inlineStaysSpec)) inlineStaysUptoCard

/-- THE SECOND FORM's CARD OF 'patoislaw8.BuiltinDoes'. -/
def builtinDoesUptoCard : Claim7 := { stood := { row := builtinDoesUptoRow, standIns := [], harness := (true, "17670d157e75ab4e94fa35252d3d1f8b55b2453988b6ea78c61ee9a05cfa3c00"), looks := false }, kinds := [], alts := [], laidByText := true, laidKinds := [.data, .data, .data], laidTests := true, laidLooks := .later }
def BuiltinDoesUptoCardSaid : Prop := Claim7.holds Tryd.pinned (.plain (OpenSpec.upto builtinDoesSpec)) builtinDoesUptoCard
end Rows
end Go.Proofs.YtjpfolbghjhodaaDoor
