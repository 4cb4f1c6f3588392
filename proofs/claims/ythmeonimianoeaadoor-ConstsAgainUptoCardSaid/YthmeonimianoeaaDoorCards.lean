/-
  DERIVED. GIVEN WITH THE SEED: THE CARDS: each row of YthmeonimianoeaaDoorRows.lean that lists a variable, with what it lists TIED to the program's text (the seventh form; the later family's looks); each row that meets fmt, with fmt's text TOLD by the authors' own Lean function (tested against real Go, not proved from fmt's source: count such statements apart). THE CARD IS WHAT COUNTS. Prove the row's statement (the work); the ties are given (YthmeonimianoeaaDoorTie.lean); close each card by the builder's one call (the guide's Derived/Test/ToyasCard.lean, 'card_holds'). Laid BY PROGRAM, IN A SANDBOX (cutbox-door.mjs). By AI agents, Wed Nov 11 2026. No macro, syntax, notation, axiom, sorry.
-/
import Derived.Test.YthmeonimianoeaaDoorRows
import GoSem.ClaimSeven
namespace Go.Proofs.YthmeonimianoeaaDoor
namespace Rows

/-- THE TIED CARD OF 'patoislaw23.GenGreat'. -/
def genGreatCard : Claim7 := { stood := { row := genGreatRow, standIns := [], harness := (true, "3c44aeb15b494997be0c3ed4d2257a960756dc92788f25ef01fd081287d45e10"), looks := true }, kinds := [], alts := [], laidByText := true, laidKinds := [.sentinel, .sentinel, .sentinel, .sentinel], laidTests := true, laidLooks := .later }
def GenGreatCardSaid : Prop := Claim7.holds Tryd.pinned (.plain (OpenSpec.ofChange genGreatSpec)) genGreatCard

/-- THE TIED CARD OF 'patoislaw17.ConstsAgain'. -/
def constsAgainCard : Claim7 := { stood := { row := constsAgainRow, standIns := [], harness := (true, "3c44aeb15b494997be0c3ed4d2257a960756dc92788f25ef01fd081287d45e10"), looks := true }, kinds := [], alts := [], laidByText := true, laidKinds := [.sentinel, .sentinel, .sentinel], laidTests := true, laidLooks := .later }
def ConstsAgainCardSaid : Prop := Claim7.holds Tryd.pinned (.plain (OpenSpec.ofChange constsAgainSpec)) constsAgainCard

/-- THE TIED CARD OF 'patoislaw17.ConstsTexts'. -/
def constsTextsCard : Claim7 := { stood := { row := constsTextsRow, standIns := [], harness := (true, "3c44aeb15b494997be0c3ed4d2257a960756dc92788f25ef01fd081287d45e10"), looks := true }, kinds := [], alts := [], laidByText := true, laidKinds := [.sentinel, .sentinel, .sentinel], laidTests := true, laidLooks := .later }
def ConstsTextsCardSaid : Prop := Claim7.holds Tryd.pinned (.plain (OpenSpec.ofChange constsTextsSpec)) constsTextsCard

/-- THE TIED CARD OF 'patoislaw23.GenMakes'. -/
def genMakesCard : Claim7 := { stood := { row := genMakesRow, standIns := [], harness := (true, "3c44aeb15b494997be0c3ed4d2257a960756dc92788f25ef01fd081287d45e10"), looks := true }, kinds := [], alts := [], laidByText := true, laidKinds := [.sentinel, .sentinel, .sentinel, .sentinel, .sentinel, .sentinel, .sentinel, .sentinel, .sentinel, .sentinel, .sentinel, .sentinel, .sentinel, .sentinel, .sentinel, .sentinel, .sentinel], laidTests := true, laidLooks := .later }
def GenMakesCardSaid : Prop := Claim7.holds Tryd.pinned (.plain (OpenSpec.ofChange genMakesSpec)) genMakesCard

/-- THE TIED CARD OF 'patoislaw22.CodeChecks'. -/
def codeChecksCard : Claim7 := { stood := { row := codeChecksRow, standIns := [], harness := (true, "3c44aeb15b494997be0c3ed4d2257a960756dc92788f25ef01fd081287d45e10"), looks := true }, kinds := [], alts := [], laidByText := true, laidKinds := [.data, .data, .data, .sentinel, .sentinel, .sentinel, .sentinel, .sentinel, .sentinel, .sentinel, .sentinel, .sentinel, .sentinel, .sentinel, .sentinel, .sentinel, .sentinel, .sentinel, .sentinel, .sentinel], laidTests := true, laidLooks := .later }
def CodeChecksCardSaid : Prop := Claim7.holds Tryd.pinned (.plain (OpenSpec.ofChange codeChecksSpec)) codeChecksCard

/-- THE SECOND FORM's CARD OF 'patoislaw23.GenGreat'. -/
def genGreatUptoCard : Claim7 := { stood := { row := genGreatUptoRow, standIns := [], harness := (true, "3c44aeb15b494997be0c3ed4d2257a960756dc92788f25ef01fd081287d45e10"), looks := true }, kinds := [], alts := [], laidByText := true, laidKinds := [.sentinel, .sentinel, .sentinel, .sentinel], laidTests := true, laidLooks := .later }
def GenGreatUptoCardSaid : Prop := Claim7.holds Tryd.pinned (.plain (OpenSpec.upto genGreatSpec)) genGreatUptoCard

/-- THE SECOND FORM's CARD OF 'patoislaw17.ConstsAgain'. -/
def constsAgainUptoCard : Claim7 := { stood := { row := constsAgainUptoRow, standIns := [], harness := (true, "3c44aeb15b494997be0c3ed4d2257a960756dc92788f25ef01fd081287d45e10"), looks := true }, kinds := [], alts := [], laidByText := true, laidKinds := [.sentinel, .sentinel, .sentinel], laidTests := true, laidLooks := .later }
def ConstsAgainUptoCardSaid : Prop := Claim7.holds Tryd.pinned (.plain (OpenSpec.upto constsAgainSpec)) constsAgainUptoCard

/-- THE SECOND FORM's CARD OF 'patoislaw17.ConstsTexts'. -/
def constsTextsUptoCard : Claim7 := { stood := { row := constsTextsUptoRow, standIns := [], harness := (true, "3c44aeb15b494997be0c3ed4d2257a960756dc92788f25ef01fd081287d45e10"), looks := true }, kinds := [], alts := [], laidByText := true, laidKinds := [.sentinel, .sentinel, .sentinel], laidTests := true, laidLooks := .later }
def ConstsTextsUptoCardSaid : Prop := Claim7.holds Tryd.pinned (.plain (OpenSpec.upto constsTextsSpec)) constsTextsUptoCard

/-- THE SECOND FORM's CARD OF 'patoislaw23.GenMakes'. -/
def genMakesUptoCard : Claim7 := { stood := { row := genMakesUptoRow, standIns := [], harness := (true, "3c44aeb15b494997be0c3ed4d2257a960756dc92788f25ef01fd081287d45e10"), looks := true }, kinds := [], alts := [], laidByText := true, laidKinds := [.sentinel, .sentinel, .sentinel, .sentinel, .sentinel, .sentinel, .sentinel, .sentinel, .sentinel, .sentinel, .sentinel, .sentinel, .sentinel, .sentinel, .sentinel, .sentinel, .sentinel], laidTests := true, laidLooks := .later }
def GenMakesUptoCardSaid : Prop := Claim7.holds Tryd.pinned (.plain (OpenSpec.upto genMakesSpec)) genMakesUptoCard

/-- THE SECOND FORM's CARD OF 'patoislaw22.CodeChecks'. -/
def codeChecksUptoCard : Claim7 := { stood := { row := codeChecksUptoRow, standIns := [], harness := (true, "3c44aeb15b494997be0c3ed4d2257a960756dc92788f25ef01fd081287d45e10"), looks := true }, kinds := [], alts := [], laidByText := true, laidKinds := [.data, .data, .data, .sentinel, .sentinel, .sentinel, .sentinel, .sentinel, .sentinel, .sentinel, .sentinel, .sentinel, .sentinel, .sentinel, .sentinel, .sentinel, .sentinel, .sentinel, .sentinel, .sentinel], laidTests := true, laidLooks := .later }
def CodeChecksUptoCardSaid : Prop := Claim7.holds Tryd.pinned (.plain (OpenSpec.upto codeChecksSpec)) codeChecksUptoCard
end Rows
end Go.Proofs.YthmeonimianoeaaDoor
