/-
  DERIVED. GIVEN WITH THE SEED: THE CARDS: each row of YtlhpflilpdceiaaDoorRows.lean that lists a variable, with what it lists TIED to the program's text (the seventh form; the later family's looks); each row that meets fmt, with fmt's text TOLD by the authors' own Lean function (tested against real Go, not proved from fmt's source: count such statements apart). THE CARD IS WHAT COUNTS. Prove the row's statement (the work); the ties are given (YtlhpflilpdceiaaDoorTie.lean); close each card by the builder's one call (the guide's Derived/Test/ToyasCard.lean, 'card_holds'). Laid BY PROGRAM, IN A SANDBOX (cutbox-door.mjs). By AI agents, Wed Nov 11 2026. No macro, syntax, notation, axiom, sorry.
-/
import Derived.Test.YtlhpflilpdceiaaDoorRows
import GoSem.ClaimSeven
namespace Go.Proofs.YtlhpflilpdceiaaDoor
namespace Rows

/-- THE TIED CARD OF 'patoislaw14.CscanQuotes'. -/
def cscanQuotesCard : Claim7 := { stood := { row := cscanQuotesRow, standIns := [], harness := (true, "dcd8055334bf7e32fd6894cf78d3894ec83f6fa051c02c964a92571df207fac1"), looks := true }, kinds := [], alts := [], laidByText := true, laidKinds := [.sentinel, .sentinel, .sentinel, .sentinel, .sentinel, .sentinel, .sentinel, .sentinel, .sentinel, .sentinel, .sentinel, .sentinel, .sentinel, .sentinel, .sentinel, .sentinel, .sentinel], laidTests := true, laidLooks := .later }
def CscanQuotesCardSaid : Prop := Claim7.holds Tryd.pinned (.plain (OpenSpec.ofChange cscanQuotesSpec)) cscanQuotesCard

/-- THE TIED CARD OF 'patoislaw14.CscanParts'. -/
def cscanPartsCard : Claim7 := { stood := { row := cscanPartsRow, standIns := [], harness := (true, "dcd8055334bf7e32fd6894cf78d3894ec83f6fa051c02c964a92571df207fac1"), looks := true }, kinds := [], alts := [], laidByText := true, laidKinds := [.sentinel, .sentinel, .sentinel, .sentinel, .sentinel, .sentinel, .sentinel, .sentinel, .sentinel, .sentinel, .sentinel, .sentinel, .sentinel, .sentinel, .sentinel, .sentinel, .sentinel], laidTests := true, laidLooks := .later }
def CscanPartsCardSaid : Prop := Claim7.holds Tryd.pinned (.plain (OpenSpec.ofChange cscanPartsSpec)) cscanPartsCard

/-- THE TIED CARD OF 'patoislaw14.CscanBraces'. -/
def cscanBracesCard : Claim7 := { stood := { row := cscanBracesRow, standIns := [], harness := (true, "dcd8055334bf7e32fd6894cf78d3894ec83f6fa051c02c964a92571df207fac1"), looks := true }, kinds := [], alts := [], laidByText := true, laidKinds := [.sentinel, .sentinel, .sentinel, .sentinel, .sentinel, .sentinel, .sentinel, .sentinel, .sentinel, .sentinel, .sentinel, .sentinel, .sentinel, .sentinel, .sentinel, .sentinel, .sentinel], laidTests := true, laidLooks := .later }
def CscanBracesCardSaid : Prop := Claim7.holds Tryd.pinned (.plain (OpenSpec.ofChange cscanBracesSpec)) cscanBracesCard

/-- THE TIED CARD OF 'patoislaw8.BuiltinReads'. -/
def builtinReadsCard : Claim7 := { stood := { row := builtinReadsRow, standIns := [], harness := (true, "dcd8055334bf7e32fd6894cf78d3894ec83f6fa051c02c964a92571df207fac1"), looks := true }, kinds := [], alts := [], laidByText := true, laidKinds := [.data, .data, .data], laidTests := true, laidLooks := .later }
def BuiltinReadsCardSaid : Prop := Claim7.holds Tryd.pinned (.plain (OpenSpec.ofChange builtinReadsSpec)) builtinReadsCard

/-- THE TIED CARD OF 'patoislaw8.BuiltinCounts'. -/
def builtinCountsCard : Claim7 := { stood := { row := builtinCountsRow, standIns := [], harness := (true, "dcd8055334bf7e32fd6894cf78d3894ec83f6fa051c02c964a92571df207fac1"), looks := true }, kinds := [], alts := [], laidByText := true, laidKinds := [.data, .data, .data], laidTests := true, laidLooks := .later }
def BuiltinCountsCardSaid : Prop := Claim7.holds Tryd.pinned (.plain (OpenSpec.ofChange builtinCountsSpec)) builtinCountsCard

/-- THE TIED CARD OF 'patoislaw8.BuiltinSays'. -/
def builtinSaysCard : Claim7 := { stood := { row := builtinSaysRow, standIns := [], harness := (true, "dcd8055334bf7e32fd6894cf78d3894ec83f6fa051c02c964a92571df207fac1"), looks := true }, kinds := [], alts := [], laidByText := true, laidKinds := [.data, .data, .data], laidTests := true, laidLooks := .later }
def BuiltinSaysCardSaid : Prop := Claim7.holds Tryd.pinned (.plain (OpenSpec.ofChange builtinSaysSpec)) builtinSaysCard

/-- THE TIED CARD OF 'patoislaw8.BuiltinTests'. -/
def builtinTestsCard : Claim7 := { stood := { row := builtinTestsRow, standIns := [], harness := (true, "dcd8055334bf7e32fd6894cf78d3894ec83f6fa051c02c964a92571df207fac1"), looks := true }, kinds := [], alts := [], laidByText := true, laidKinds := [.data, .data, .data], laidTests := true, laidLooks := .later }
def BuiltinTestsCardSaid : Prop := Claim7.holds Tryd.pinned (.plain (OpenSpec.ofChange builtinTestsSpec)) builtinTestsCard

/-- THE SECOND FORM's CARD OF 'patoislaw14.CscanQuotes'. -/
def cscanQuotesUptoCard : Claim7 := { stood := { row := cscanQuotesUptoRow, standIns := [], harness := (true, "dcd8055334bf7e32fd6894cf78d3894ec83f6fa051c02c964a92571df207fac1"), looks := true }, kinds := [], alts := [], laidByText := true, laidKinds := [.sentinel, .sentinel, .sentinel, .sentinel, .sentinel, .sentinel, .sentinel, .sentinel, .sentinel, .sentinel, .sentinel, .sentinel, .sentinel, .sentinel, .sentinel, .sentinel, .sentinel], laidTests := true, laidLooks := .later }
def CscanQuotesUptoCardSaid : Prop := Claim7.holds Tryd.pinned (.plain (OpenSpec.upto cscanQuotesSpec)) cscanQuotesUptoCard

/-- THE SECOND FORM's CARD OF 'patoislaw14.CscanParts'. -/
def cscanPartsUptoCard : Claim7 := { stood := { row := cscanPartsUptoRow, standIns := [], harness := (true, "dcd8055334bf7e32fd6894cf78d3894ec83f6fa051c02c964a92571df207fac1"), looks := true }, kinds := [], alts := [], laidByText := true, laidKinds := [.sentinel, .sentinel, .sentinel, .sentinel, .sentinel, .sentinel, .sentinel, .sentinel, .sentinel, .sentinel, .sentinel, .sentinel, .sentinel, .sentinel, .sentinel, .sentinel, .sentinel], laidTests := true, laidLooks := .later }
def CscanPartsUptoCardSaid : Prop := Claim7.holds Tryd.pinned (.plain (OpenSpec.upto cscanPartsSpec)) cscanPartsUptoCard

/-- THE SECOND FORM's CARD OF 'patoislaw14.CscanBraces'. -/
def cscanBracesUptoCard : Claim7 := { stood := { row := cscanBracesUptoRow, standIns := [], harness := (true, "dcd8055334bf7e32fd6894cf78d3894ec83f6fa051c02c964a92571df207fac1"), looks := true }, kinds := [], alts := [], laidByText := true, laidKinds := [.sentinel, .sentinel, .sentinel, .sentinel, .sentinel, .sentinel, .sentinel, .sentinel, .sentinel, .sentinel, .sentinel, .sentinel, .sentinel, .sentinel, .sentinel, .sentinel, .sentinel], laidTests := true, laidLooks := .later }
def CscanBracesUptoCardSaid : Prop := Claim7.holds Tryd.pinned (.plain (OpenSpec.upto cscanBracesSpec)) cscanBracesUptoCard

/-- THE SECOND FORM's CARD OF 'patoislaw8.BuiltinReads'. -/
def builtinReadsUptoCard : Claim7 := { stood := { row := builtinReadsUptoRow, standIns := [], harness := (true, "dcd8055334bf7e32fd6894cf78d3894ec83f6fa051c02c964a92571df207fac1"), looks := true }, kinds := [], alts := [], laidByText := true, laidKinds := [.data, .data, .data], laidTests := true, laidLooks := .later }
def BuiltinReadsUptoCardSaid : Prop := Claim7.holds Tryd.pinned (.plain (OpenSpec.upto builtinReadsSpec)) builtinReadsUptoCard

/-- THE SECOND FORM's CARD OF 'patoislaw8.BuiltinCounts'. -/
def builtinCountsUptoCard : Claim7 := { stood := { row := builtinCountsUptoRow, standIns := [], harness := (true, "dcd8055334bf7e32fd6894cf78d3894ec83f6fa051c02c964a92571df207fac1"), looks := true }, kinds := [], alts := [], laidByText := true, laidKinds := [.data, .data, .data], laidTests := true, laidLooks := .later }
def BuiltinCountsUptoCardSaid : Prop := Claim7.holds Tryd.pinned (.plain (OpenSpec.upto builtinCountsSpec)) builtinCountsUptoCard

/-- THE SECOND FORM's CARD OF 'patoislaw8.BuiltinSays'. -/
def builtinSaysUptoCard : Claim7 := { stood := { row := builtinSaysUptoRow, standIns := [], harness := (true, "dcd8055334bf7e32fd6894cf78d3894ec83f6fa051c02c964a92571df207fac1"), looks := true }, kinds := [], alts := [], laidByText := true, laidKinds := [.data, .data, .data], laidTests := true, laidLooks := .later }
def BuiltinSaysUptoCardSaid : Prop := Claim7.holds Tryd.pinned (.plain (OpenSpec.upto builtinSaysSpec)) builtinSaysUptoCard

/-- THE SECOND FORM's CARD OF 'patoislaw8.BuiltinTests'. -/
def builtinTestsUptoCard : Claim7 := { stood := { row := builtinTestsUptoRow, standIns := [], harness := (true, "dcd8055334bf7e32fd6894cf78d3894ec83f6fa051c02c964a92571df207fac1"), looks := true }, kinds := [], alts := [], laidByText := true, laidKinds := [.data, .data, .data], laidTests := true, laidLooks := .later }
def BuiltinTestsUptoCardSaid : Prop := Claim7.holds Tryd.pinned (.plain (OpenSpec.upto builtinTestsSpec)) builtinTestsUptoCard
end Rows
end Go.Proofs.YtlhpflilpdceiaaDoor
