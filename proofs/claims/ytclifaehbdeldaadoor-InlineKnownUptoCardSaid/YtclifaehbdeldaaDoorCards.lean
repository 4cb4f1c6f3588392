/-
  DERIVED. GIVEN WITH THE SEED: THE CARDS: each row of YtclifaehbdeldaaDoorRows.lean that lists a variable, with what it lists TIED to the program's text (the seventh form; the later family's looks); each row that meets fmt, with fmt's text TOLD by the authors' own Lean function (tested against real Go, not proved from fmt's source: count such statements apart). THE CARD IS WHAT COUNTS. Prove the row's statement (the work); the ties are given (YtclifaehbdeldaaDoorTie.lean); close each card by the builder's one call (the guide's Derived/Test/ToyasCard.lean, 'card_holds'). Laid BY PROGRAM, IN A SANDBOX (cutbox-door.mjs). By AI agents, Wed Nov 11 2026. No macro, syntax, notation, axiom, sorry.
-/
import Derived.Test.YtclifaehbdeldaaDoorRows
import GoSem.ClaimSeven
namespace Go.Proofs.YtclifaehbdeldaaDoor
namespace Rows

/-- THE TIED CARD OF 'patoislaw24.ThreadKeeps'. -/
def threadKeepsCard : Claim7 := { stood := { row := threadKeepsRow, standIns := [], harness := (true, "5612f0f537c7aaf3f310298c01766449743c3d0034e326b8f274b1fd4aaa9e6c"), looks := true }, kinds := [], alts := [], laidByText := true, laidKinds := [.sentinel, .sentinel, .sentinel, .sentinel], laidTests := true, laidLooks := .later }
def ThreadKeepsCardSaid : Prop := Claim7.holds Tryd.pinned (.plain (OpenSpec.ofChange threadKeepsSpec)) threadKeepsCard

/-- THE TIED CARD OF 'patoislaw23.GenGreat'. -/
def genGreatCard : Claim7 := { stood := { row := genGreatRow, standIns := [], harness := (true, "5612f0f537c7aaf3f310298c01766449743c3d0034e326b8f274b1fd4aaa9e6c"), looks := true }, kinds := [], alts := [], laidByText := true, laidKinds := [.sentinel, .sentinel, .sentinel, .sentinel], laidTests := true, laidLooks := .later }
def GenGreatCardSaid : Prop := Claim7.holds Tryd.pinned (.plain (OpenSpec.ofChange genGreatSpec)) genGreatCard

/-- THE TIED CARD OF 'patoislaw23.GenMakes'. -/
def genMakesCard : Claim7 := { stood := { row := genMakesRow, standIns := [], harness := (true, "5612f0f537c7aaf3f310298c01766449743c3d0034e326b8f274b1fd4aaa9e6c"), looks := true }, kinds := [], alts := [], laidByText := true, laidKinds := [.sentinel, .sentinel, .sentinel, .sentinel, .sentinel, .sentinel, .sentinel, .sentinel, .sentinel, .sentinel, .sentinel, .sentinel, .sentinel, .sentinel, .sentinel, .sentinel, .sentinel], laidTests := true, laidLooks := .later }
def GenMakesCardSaid : Prop := Claim7.holds Tryd.pinned (.plain (OpenSpec.ofChange genMakesSpec)) genMakesCard

/-- THE TIED CARD OF 'patoislaw24.ThreadJumps'. -/
def threadJumpsCard : Claim7 := { stood := { row := threadJumpsRow, standIns := [], harness := (true, "5612f0f537c7aaf3f310298c01766449743c3d0034e326b8f274b1fd4aaa9e6c"), looks := true }, kinds := [], alts := [], laidByText := true, laidKinds := [.sentinel, .sentinel], laidTests := true, laidLooks := .later }
def ThreadJumpsCardSaid : Prop := Claim7.holds Tryd.pinned (.plain (OpenSpec.ofChange threadJumpsSpec)) threadJumpsCard

/-- THE TIED CARD OF 'patoislaw24.ThreadReach'. -/
def threadReachCard : Claim7 := { stood := { row := threadReachRow, standIns := [], harness := (true, "5612f0f537c7aaf3f310298c01766449743c3d0034e326b8f274b1fd4aaa9e6c"), looks := true }, kinds := [], alts := [], laidByText := true, laidKinds := [.sentinel, .sentinel], laidTests := true, laidLooks := .later }
def ThreadReachCardSaid : Prop := Claim7.holds Tryd.pinned (.plain (OpenSpec.ofChange threadReachSpec)) threadReachCard

/-- THE TIED CARD OF 'patoislaw19.InlineOwn'. -/
def inlineOwnCard : Claim7 := { stood := { row := inlineOwnRow, standIns := [], harness := (true, "5612f0f537c7aaf3f310298c01766449743c3d0034e326b8f274b1fd4aaa9e6c"), looks := true }, kinds := [], alts := [], laidByText := true, laidKinds := [.sentinel, .sentinel, .sentinel], laidTests := true, laidLooks := .later }
def InlineOwnCardSaid : Prop := Claim7.holds Tryd.pinned (.plain (OpenSpec.ofChange inlineOwnSpec)) inlineOwnCard

/-- THE TIED CARD OF 'patoislaw19.InlineKnown'. -/
def inlineKnownCard : Claim7 := { stood := { row := inlineKnownRow, standIns := [], harness := (true, "5612f0f537c7aaf3f310298c01766449743c3d0034e326b8f274b1fd4aaa9e6c"), looks := true }, kinds := [], alts := [], laidByText := true, laidKinds := [.sentinel, .sentinel, .sentinel], laidTests := true, laidLooks := .later }
def InlineKnownCardSaid : Prop := Claim7.holds Tryd.pinned (.plain (OpenSpec.ofChange inlineKnownSpec)) inlineKnownCard

/-- THE TIED CARD OF 'patoislaw19.InlineStays'. -/
def inlineStaysCard : Claim7 := { stood := { row := inlineStaysRow, standIns := [], harness := (true, "5612f0f537c7aaf3f310298c01766449743c3d0034e326b8f274b1fd4aaa9e6c"), looks := true }, kinds := [], alts := [], laidByText := true, laidKinds := [.sentinel, .sentinel, .sentinel], laidTests := true, laidLooks := .later }
def InlineStaysCardSaid : Prop := Claim7.holds Tryd.pinned (.plain (OpenSpec.ofChange inlineStaysSpec)) inlineStaysCard

/-- THE TIED CARD OF 'patoislaw22.CodeChecks'. -/
def codeChecksCard : Claim7 := { stood := { row := codeChecksRow, standIns := [], harness := (true, "5612f0f537c7aaf3f310298c01766449743c3d0034e326b8f274b1fd4aaa9e6c"), looks := true }, kinds := [], alts := [], laidByText := true, laidKinds := [.data, .data, .data, .sentinel, .sentinel, .sentinel, .sentinel, .sentinel, .sentinel, .sentinel, .sentinel, .sentinel, .sentinel, .sentinel, .sentinel, .sentinel, .sentinel, .sentinel, .sentinel, .sentinel], laidTests := true, laidLooks := .later }
def CodeChecksCardSaid : Prop := Claim7.holds Tryd.pinned (.plain (OpenSpec.ofChange codeChecksSpec)) codeChecksCard

/-- THE TIED CARD OF 'patoislaw22.CodeBack'. -/
def codeBackCard : Claim7 := { stood := { row := codeBackRow, standIns := [], harness := (true, "5612f0f537c7aaf3f310298c01766449743c3d0034e326b8f274b1fd4aaa9e6c"), looks := true }, kinds := [], alts := [], laidByText := true, laidKinds := [.data, .data, .data, .data, .sentinel, .sentinel, .sentinel, .sentinel, .sentinel, .sentinel, .sentinel, .sentinel, .sentinel, .sentinel, .sentinel, .sentinel, .sentinel, .sentinel, .sentinel, .sentinel, .sentinel, .sentinel, .sentinel, .pinned], laidTests := true, laidLooks := .later }
def CodeBackCardSaid : Prop := Claim7.holds Tryd.pinned (.plain (OpenSpec.ofChange codeBackSpec)) codeBackCard

/-- THE SECOND FORM's CARD OF 'patoislaw24.ThreadKeeps'. -/
def threadKeepsUptoCard : Claim7 := { stood := { row := threadKeepsUptoRow, standIns := [], harness := (true, "5612f0f537c7aaf3f310298c01766449743c3d0034e326b8f274b1fd4aaa9e6c"), looks := true }, kinds := [], alts := [], laidByText := true, laidKinds := [.sentinel, .sentinel, .sentinel, .sentinel], laidTests := true, laidLooks := .later }
def ThreadKeepsUptoCardSaid : Prop := Claim7.holds Tryd.pinned (.plain (OpenSpec.upto threadKeepsSpec)) threadKeepsUptoCard

/-- THE SECOND FORM's CARD OF 'patoislaw23.GenGreat'. -/
def genGreatUptoCard : Claim7 := { stood := { row := genGreatUptoRow, standIns := [], harness := (true, "5612f0f537c7aaf3f310298c01766449743c3d0034e326b8f274b1fd4aaa9e6c"), looks := true }, kinds := [], alts := [], laidByText := true, laidKinds := [.sentinel, .sentinel, .sentinel, .sentinel], laidTests := true, laidLooks := .later }
def GenGreatUptoCardSaid : Prop := Claim7.holds Tryd.pinned (.plain (OpenSpec.upto genGreatSpec)) genGreatUptoCard

/-- THE SECOND FORM's CARD OF 'patoislaw23.GenMakes'. -/
def genMakesUptoCard : Claim7 := { stood := { row := genMakesUptoRow, standIns := [], harness := (true, "5612f0f537c7aaf3f310298c01766449743c3d0034e326b8f274b1fd4aaa9e6c"), looks := true }, kinds := [], alts := [], laidByText := true, laidKinds := [.sentinel, .sentinel, .sentinel, .sentinel, .sentinel, .sentinel, .sentinel, .sentinel, .sentinel, .sentinel, .sentinel, .sentinel, .sentinel, .sentinel, .sentinel, .sentinel, .sentinel], laidTests := true, laidLooks := .later }
def GenMakesUptoCardSaid : Prop := Claim7.holds Tryd.pinned (.plain (OpenSpec.upto genMakesSpec)) genMakesUptoCard

/-- THE SECOND FORM's CARD OF 'patoislaw24.ThreadJumps'. -/
def threadJumpsUptoCard : Claim7 := { stood := { row := threadJumpsUptoRow, standIns := [], harness := (true, "5612f0f537c7aaf3f310298c01766449743c3d0034e326b8f274b1fd4aaa9e6c"), looks := true }, kinds := [], alts := [], laidByText := true, laidKinds := [.sentinel, .sentinel], laidTests := true, laidLooks := .later }
def ThreadJumpsUptoCardSaid : Prop := Claim7.holds Tryd.pinned (.plain (OpenSpec.upto threadJumpsSpec)) threadJumpsUptoCard

/-- THE SECOND FORM's CARD OF 'patoislaw24.ThreadReach'. -/
def threadReachUptoCard : Claim7 := { stood := { row := threadReachUptoRow, standIns := [], harness := (true, "5612f0f537c7aaf3f310298c01766449743c3d0034e326b8f274b1fd4aaa9e6c"), looks := true }, kinds := [], alts := [], laidByText := true, laidKinds := [.sentinel, .sentinel], laidTests := true, laidLooks := .later }
def ThreadReachUptoCardSaid : Prop := Claim7.holds Tryd.pinned (.plain (OpenSpec.upto threadReachSpec)) threadReachUptoCard

/-- THE SECOND FORM's CARD OF 'patoislaw19.InlineOwn'. -/
def inlineOwnUptoCard : Claim7 := { stood := { row := inlineOwnUptoRow, standIns := [], harness := (true, "5612f0f537c7aaf3f310298c01766449743c3d0034e326b8f274b1fd4aaa9e6c"), looks := true }, kinds := [], alts := [], laidByText := true, laidKinds := [.sentinel, .sentinel, .sentinel], laidTests := true, laidLooks := .later }
def InlineOwnUptoCardSaid : Prop := Claim7.holds Tryd.pinned (.plain (OpenSpec.upto inlineOwnSpec)) inlineOwnUptoCard

/-- THE SECOND FORM's CARD OF 'patoislaw19.InlineKnown'. -/
def inlineKnownUptoCard : Claim7 := { stood := { row := inlineKnownUptoRow, standIns := [], harness := (true, "5612f0f537c7aaf3f310298c01766449743c3d0034e326b8f274b1fd4aaa9e6c"), looks := true }, kinds := [], alts := [], laidByText := true, laidKinds := [.sentinel, .sentinel, .sentinel], laidTests := true, laidLooks := .later }
def InlineKnownUptoCardSaid : Prop := Claim7.holds Tryd.pinned (.plain (OpenSpec.upto inlineKnownSpec)) inlineKnownUptoCard

/-- THE SECOND FORM's CARD OF 'patoislaw19.InlineStays'. -/
def inlineStaysUptoCard : Claim7 := { stood := { row := inlineStaysUptoRow, standIns := [], harness := (true, "5612f0f537c7aaf3f310298c01766449743c3d0034e326b8f274b1fd4aaa9e6c"), looks := true }, kinds := [], alts := [], laidByText := true, laidKinds := [.sentinel, .sentinel, .sentinel], laidTests := true, laidLooks := .later }
def InlineStaysUptoCardSaid : Prop := Claim7.holds Tryd.pinned (.plain (OpenSpec.upto inlineStaysSpec)) inlineStaysUptoCard

/-- THE SECOND FORM's CARD OF 'patoislaw22.CodeChecks'. -/
def codeChecksUptoCard : Claim7 := { stood := { row := codeChecksUptoRow, standIns := [], harness := (true, "5612f0f537c7aaf3f310298c01766449743c3d0034e326b8f274b1fd4aaa9e6c"), looks := true }, kinds := [], alts := [], laidByText := true, laidKinds := [.data, .data, .data, .sentinel, .sentinel, .sentinel, .sentinel, .sentinel, .sentinel, .sentinel, .sentinel, .sentinel, .sentinel, .sentinel, .sentinel, .sentinel, .sentinel, .sentinel, .sentinel, .sentinel], laidTests := true, laidLooks := .later }
def CodeChecksUptoCardSaid : Prop := Claim7.holds Tryd.pinned (.plain (OpenSpec.upto codeChecksSpec)) codeChecksUptoCard

/-- THE SECOND FORM's CARD OF 'patoislaw22.CodeBack'. -/
def codeBackUptoCard : Claim7 := { stood := { row := codeBackUptoRow, standIns := [], harness := (true, "5612f0f537c7aaf3f310298c01766449743c3d0034e326b8f274b1fd4aaa9e6c"), looks := true }, kinds := [], alts := [], laidByText := true, laidKinds := [.data, .data, .data, .data, .sentinel, .sentinel, .sentinel, .sentinel, .sentinel, .sentinel, .sentinel, .sentinel, .sentinel, .sentinel, .sentinel, .sentinel, .sentinel, .sentinel, .sentinel, .sentinel, .sentinel, .sentinel, .sentinel, .pinned], laidTests := true, laidLooks := .later }
def CodeBackUptoCardSaid : Prop := Claim7.holds Tryd.pinned (.plain (OpenSpec.upto codeBackSpec)) codeBackUptoCard
end Rows
end Go.Proofs.YtclifaehbdeldaaDoor
