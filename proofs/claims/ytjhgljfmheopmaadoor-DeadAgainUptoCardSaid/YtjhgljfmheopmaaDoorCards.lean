/-
  DERIVED. GIVEN WITH THE SEED: THE CARDS: each row of YtjhgljfmheopmaaDoorRows.lean that lists a variable, with what it lists TIED to the program's text (the seventh form; the later family's looks); each row that meets fmt, with fmt's text TOLD by the authors' own Lean function (tested against real Go, not proved from fmt's source: count such statements apart). THE CARD IS WHAT COUNTS. Prove the row's statement (the work); the ties are given (YtjhgljfmheopmaaDoorTie.lean); close each card by the builder's one call (the guide's Derived/Test/ToyasCard.lean, 'card_holds'). Laid BY PROGRAM, IN A SANDBOX (cutbox-door.mjs). By AI agents, Wed Nov 11 2026. No macro, syntax, notation, axiom, sorry.
-/
import Derived.Test.YtjhgljfmheopmaaDoorRows
import GoSem.ClaimSeven
namespace Go.Proofs.YtjhgljfmheopmaaDoor
namespace Rows

/-- THE TIED CARD OF 'patoislaw5.CoreKinds'. -/
def coreKindsCard : Claim7 := { stood := { row := coreKindsRow, standIns := [], harness := (true, "ab40ecc5051d3164c27d2f5f269102cdff880e70a682c2e3433b1e3e5665d937"), looks := true }, kinds := [], alts := [], laidByText := true, laidKinds := [.sentinel, .sentinel, .sentinel, .sentinel, .sentinel, .sentinel, .sentinel, .sentinel, .sentinel, .sentinel, .sentinel, .sentinel, .sentinel, .sentinel, .sentinel, .sentinel, .sentinel], laidTests := true, laidLooks := .later }
def CoreKindsCardSaid : Prop := Claim7.holds Tryd.pinned (.plain (OpenSpec.ofChange coreKindsSpec)) coreKindsCard

/-- THE TIED CARD OF 'patoislaw5.CoreMany'. -/
def coreManyCard : Claim7 := { stood := { row := coreManyRow, standIns := [], harness := (true, "ab40ecc5051d3164c27d2f5f269102cdff880e70a682c2e3433b1e3e5665d937"), looks := true }, kinds := [], alts := [], laidByText := true, laidKinds := [.sentinel, .sentinel, .sentinel, .sentinel, .sentinel, .sentinel, .sentinel, .sentinel, .sentinel, .sentinel, .sentinel, .sentinel, .sentinel, .sentinel, .sentinel, .sentinel, .sentinel], laidTests := true, laidLooks := .later }
def CoreManyCardSaid : Prop := Claim7.holds Tryd.pinned (.plain (OpenSpec.ofChange coreManySpec)) coreManyCard

/-- THE TIED CARD OF 'patoislaw5.CoreNests'. -/
def coreNestsCard : Claim7 := { stood := { row := coreNestsRow, standIns := [], harness := (true, "ab40ecc5051d3164c27d2f5f269102cdff880e70a682c2e3433b1e3e5665d937"), looks := true }, kinds := [], alts := [], laidByText := true, laidKinds := [.sentinel, .sentinel, .sentinel, .sentinel, .sentinel, .sentinel, .sentinel, .sentinel, .sentinel, .sentinel, .sentinel, .sentinel, .sentinel, .sentinel, .sentinel, .sentinel, .sentinel], laidTests := true, laidLooks := .later }
def CoreNestsCardSaid : Prop := Claim7.holds Tryd.pinned (.plain (OpenSpec.ofChange coreNestsSpec)) coreNestsCard

/-- THE TIED CARD OF 'patoislaw5.CoreMakes'. -/
def coreMakesCard : Claim7 := { stood := { row := coreMakesRow, standIns := [], harness := (true, "ab40ecc5051d3164c27d2f5f269102cdff880e70a682c2e3433b1e3e5665d937"), looks := true }, kinds := [], alts := [], laidByText := true, laidKinds := [.sentinel, .sentinel, .sentinel, .sentinel, .sentinel, .sentinel, .sentinel, .sentinel, .sentinel, .sentinel, .sentinel, .sentinel, .sentinel, .sentinel, .sentinel, .sentinel, .sentinel], laidTests := true, laidLooks := .later }
def CoreMakesCardSaid : Prop := Claim7.holds Tryd.pinned (.plain (OpenSpec.ofChange coreMakesSpec)) coreMakesCard

/-- THE TIED CARD OF 'patoislaw5.CoreAgain'. -/
def coreAgainCard : Claim7 := { stood := { row := coreAgainRow, standIns := [], harness := (true, "ab40ecc5051d3164c27d2f5f269102cdff880e70a682c2e3433b1e3e5665d937"), looks := true }, kinds := [], alts := [], laidByText := true, laidKinds := [.sentinel, .sentinel, .sentinel, .sentinel, .sentinel, .sentinel, .sentinel, .sentinel, .sentinel, .sentinel, .sentinel, .sentinel, .sentinel, .sentinel, .sentinel, .sentinel, .sentinel], laidTests := true, laidLooks := .later }
def CoreAgainCardSaid : Prop := Claim7.holds Tryd.pinned (.plain (OpenSpec.ofChange coreAgainSpec)) coreAgainCard

/-- THE TIED CARD OF 'patoislaw20.FuseOwn'. -/
def fuseOwnCard : Claim7 := { stood := { row := fuseOwnRow, standIns := [], harness := (true, "ab40ecc5051d3164c27d2f5f269102cdff880e70a682c2e3433b1e3e5665d937"), looks := true }, kinds := [], alts := [], laidByText := true, laidKinds := [.sentinel, .sentinel, .sentinel], laidTests := true, laidLooks := .later }
def FuseOwnCardSaid : Prop := Claim7.holds Tryd.pinned (.plain (OpenSpec.ofChange fuseOwnSpec)) fuseOwnCard

/-- THE TIED CARD OF 'patoislaw20.FuseFlat'. -/
def fuseFlatCard : Claim7 := { stood := { row := fuseFlatRow, standIns := [], harness := (true, "ab40ecc5051d3164c27d2f5f269102cdff880e70a682c2e3433b1e3e5665d937"), looks := true }, kinds := [], alts := [], laidByText := true, laidKinds := [.sentinel, .sentinel, .sentinel], laidTests := true, laidLooks := .later }
def FuseFlatCardSaid : Prop := Claim7.holds Tryd.pinned (.plain (OpenSpec.ofChange fuseFlatSpec)) fuseFlatCard

/-- THE TIED CARD OF 'patoislaw20.FuseMany'. -/
def fuseManyCard : Claim7 := { stood := { row := fuseManyRow, standIns := [], harness := (true, "ab40ecc5051d3164c27d2f5f269102cdff880e70a682c2e3433b1e3e5665d937"), looks := true }, kinds := [], alts := [], laidByText := true, laidKinds := [.sentinel, .sentinel, .sentinel], laidTests := true, laidLooks := .later }
def FuseManyCardSaid : Prop := Claim7.holds Tryd.pinned (.plain (OpenSpec.ofChange fuseManySpec)) fuseManyCard

/-- THE TIED CARD OF 'patoislaw18.DeadOwn'. -/
def deadOwnCard : Claim7 := { stood := { row := deadOwnRow, standIns := [], harness := (true, "ab40ecc5051d3164c27d2f5f269102cdff880e70a682c2e3433b1e3e5665d937"), looks := true }, kinds := [], alts := [], laidByText := true, laidKinds := [.sentinel, .sentinel, .sentinel], laidTests := true, laidLooks := .later }
def DeadOwnCardSaid : Prop := Claim7.holds Tryd.pinned (.plain (OpenSpec.ofChange deadOwnSpec)) deadOwnCard

/-- THE TIED CARD OF 'patoislaw18.DeadAgain'. -/
def deadAgainCard : Claim7 := { stood := { row := deadAgainRow, standIns := [], harness := (true, "ab40ecc5051d3164c27d2f5f269102cdff880e70a682c2e3433b1e3e5665d937"), looks := true }, kinds := [], alts := [], laidByText := true, laidKinds := [.sentinel, .sentinel, .sentinel], laidTests := true, laidLooks := .later }
def DeadAgainCardSaid : Prop := Claim7.holds Tryd.pinned (.plain (OpenSpec.ofChange deadAgainSpec)) deadAgainCard

/-- THE TIED CARD OF 'patoislaw18.DeadKeeps'. -/
def deadKeepsCard : Claim7 := { stood := { row := deadKeepsRow, standIns := [], harness := (true, "ab40ecc5051d3164c27d2f5f269102cdff880e70a682c2e3433b1e3e5665d937"), looks := true }, kinds := [], alts := [], laidByText := true, laidKinds := [.sentinel, .sentinel, .sentinel], laidTests := true, laidLooks := .later }
def DeadKeepsCardSaid : Prop := Claim7.holds Tryd.pinned (.plain (OpenSpec.ofChange deadKeepsSpec)) deadKeepsCard

/-- THE TIED CARD OF 'patoislaw18.DeadSilent'. -/
def deadSilentCard : Claim7 := { stood := { row := deadSilentRow, standIns := [], harness := (true, "ab40ecc5051d3164c27d2f5f269102cdff880e70a682c2e3433b1e3e5665d937"), looks := true }, kinds := [], alts := [], laidByText := true, laidKinds := [.sentinel, .sentinel, .sentinel], laidTests := true, laidLooks := .later }
def DeadSilentCardSaid : Prop := Claim7.holds Tryd.pinned (.plain (OpenSpec.ofChange deadSilentSpec)) deadSilentCard

/-- THE SECOND FORM's CARD OF 'patoislaw5.CoreKinds'. -/
def coreKindsUptoCard : Claim7 := { stood := { row := coreKindsUptoRow, standIns := [], harness := (true, "ab40ecc5051d3164c27d2f5f269102cdff880e70a682c2e3433b1e3e5665d937"), looks := true }, kinds := [], alts := [], laidByText := true, laidKinds := [.sentinel, .sentinel, .sentinel, .sentinel, .sentinel, .sentinel, .sentinel, .sentinel, .sentinel, .sentinel, .sentinel, .sentinel, .sentinel, .sentinel, .sentinel, .sentinel, .sentinel], laidTests := true, laidLooks := .later }
def CoreKindsUptoCardSaid : Prop := Claim7.holds Tryd.pinned (.plain (OpenSpec.upto coreKindsSpec)) coreKindsUptoCard

/-- THE SECOND FORM's CARD OF 'patoislaw5.CoreMany'. -/
def coreManyUptoCard : Claim7 := { stood := { row := coreManyUptoRow, standIns := [], harness := (true, "ab40ecc5051d3164c27d2f5f269102cdff880e70a682c2e3433b1e3e5665d937"), looks := true }, kinds := [], alts := [], laidByText := true, laidKinds := [.sentinel, .sentinel, .sentinel, .sentinel, .sentinel, .sentinel, .sentinel, .sentinel, .sentinel, .sentinel, .sentinel, .sentinel, .sentinel, .sentinel, .sentinel, .sentinel, .sentinel], laidTests := true, laidLooks := .later }
def CoreManyUptoCardSaid : Prop := Claim7.holds Tryd.pinned (.plain (OpenSpec.upto coreManySpec)) coreManyUptoCard

/-- THE SECOND FORM's CARD OF 'patoislaw5.CoreNests'. -/
def coreNestsUptoCard : Claim7 := { stood := { row := coreNestsUptoRow, standIns := [], harness := (true, "ab40ecc5051d3164c27d2f5f269102cdff880e70a682c2e3433b1e3e5665d937"), looks := true }, kinds := [], alts := [], laidByText := true, laidKinds := [.sentinel, .sentinel, .sentinel, .sentinel, .sentinel, .sentinel, .sentinel, .sentinel, .sentinel, .sentinel, .sentinel, .sentinel, .sentinel, .sentinel, .sentinel, .sentinel, .sentinel], laidTests := true, laidLooks := .later }
def CoreNestsUptoCardSaid : Prop := Claim7.holds Tryd.pinned (.plain (OpenSpec.upto coreNestsSpec)) coreNestsUptoCard

/-- THE SECOND FORM's CARD OF 'patoislaw5.CoreMakes'. -/
def coreMakesUptoCard : Claim7 := { stood := { row := coreMakesUptoRow, standIns := [], harness := (true, "ab40ecc5051d3164c27d2f5f269102cdff880e70a682c2e3433b1e3e5665d937"), looks := true }, kinds := [], alts := [], laidByText := true, laidKinds := [.sentinel, .sentinel, .sentinel, .sentinel, .sentinel, .sentinel, .sentinel, .sentinel, .sentinel, .sentinel, .sentinel, .sentinel, .sentinel, .sentinel, .sentinel, .sentinel, .sentinel], laidTests := true, laidLooks := .later }
def CoreMakesUptoCardSaid : Prop := Claim7.holds Tryd.pinned (.plain (OpenSpec.upto coreMakesSpec)) coreMakesUptoCard

/-- THE SECOND FORM's CARD OF 'patoislaw5.CoreAgain'. -/
def coreAgainUptoCard : Claim7 := { stood := { row := coreAgainUptoRow, standIns := [], harness := (true, "ab40ecc5051d3164c27d2f5f269102cdff880e70a682c2e3433b1e3e5665d937"), looks := true }, kinds := [], alts := [], laidByText := true, laidKinds := [.sentinel, .sentinel, .sentinel, .sentinel, .sentinel, .sentinel, .sentinel, .sentinel, .sentinel, .sentinel, .sentinel, .sentinel, .sentinel, .sentinel, .sentinel, .sentinel, .sentinel], laidTests := true, laidLooks := .later }
def CoreAgainUptoCardSaid : Prop := Claim7.holds Tryd.pinned (.plain (OpenSpec.upto coreAgainSpec)) coreAgainUptoCard

/-- THE SECOND FORM's CARD OF 'patoislaw20.FuseOwn'. -/
def fuseOwnUptoCard : Claim7 := { stood := { row := fuseOwnUptoRow, standIns := [], harness := (true, "ab40ecc5051d3164c27d2f5f269102cdff880e70a682c2e3433b1e3e5665d937"), looks := true }, kinds := [], alts := [], laidByText := true, laidKinds := [.sentinel, .sentinel, .sentinel], laidTests := true, laidLooks := .later }
def FuseOwnUptoCardSaid : Prop := Claim7.holds Tryd.pinned (.plain (OpenSpec.upto fuseOwnSpec)) fuseOwnUptoCard

/-- THE SECOND FORM's CARD OF 'patoislaw20.FuseFlat'. -/
def fuseFlatUptoCard : Claim7 := { stood := { row := fuseFlatUptoRow, standIns := [], harness := (true, "ab40ecc5051d3164c27d2f5f269102cdff880e70a682c2e3433b1e3e5665d937"), looks := true }, kinds := [], alts := [], laidByText := true, laidKinds := [.sentinel, .sentinel, .sentinel], laidTests := true, laidLooks := .later }
def FuseFlatUptoCardSaid : Prop := Claim7.holds Tryd.pinned (.plain (OpenSpec.upto fuseFlatSpec)) fuseFlatUptoCard

/-- THE SECOND FORM's CARD OF 'patoislaw20.FuseMany'. -/
def fuseManyUptoCard : Claim7 := { stood := { row := fuseManyUptoRow, standIns := [], harness := (true, "ab40ecc5051d3164c27d2f5f269102cdff880e70a682c2e3433b1e3e5665d937"), looks := true }, kinds := [], alts := [], laidByText := true, laidKinds := [.sentinel, .sentinel, .sentinel], laidTests := true, laidLooks := .later }
def FuseManyUptoCardSaid : Prop := Claim7.holds Tryd.pinned (.plain (OpenSpec.upto fuseManySpec)) fuseManyUptoCard

/-- THE SECOND FORM's CARD OF 'patoislaw18.DeadOwn'. -/
def deadOwnUptoCard : Claim7 := { stood := { row := deadOwnUptoRow, standIns := [], harness := (true, "ab40ecc5051d3164c27d2f5f269102cdff880e70a682c2e3433b1e3e5665d937"), looks := true }, kinds := [], alts := [], laidByText := true, laidKinds := [.sentinel, .sentinel, .sentinel], laidTests := true, laidLooks := .later }
def DeadOwnUptoCardSaid : Prop := Claim7.holds Tryd.pinned (.plain (OpenSpec.upto deadOwnSpec)) deadOwnUptoCard

/-- THE SECOND FORM's CARD OF 'patoislaw18.DeadAgain'. -/
def deadAgainUptoCard : Claim7 := { stood := { row := deadAgainUptoRow, standIns := [], harness := (true, "ab40ecc5051d3164c27d2f5f269102cdff880e70a682c2e3433b1e3e5665d937"), looks := true }, kinds := [], alts := [], laidByText := true, laidKinds := [.sentinel, .sentinel, .sentinel], laidTests := true, laidLooks := .later }
def DeadAgainUptoCardSaid : Prop := Claim7.holds Tryd.pinned (.plain (OpenSpec.upto deadAgainSpec)) deadAgainUptoCard

/-- THE SECOND FORM's CARD OF 'patoislaw18.DeadKeeps'. -/
def deadKeepsUptoCard : Claim7 := { stood := { row := deadKeepsUptoRow, standIns := [], harness := (true, "ab40ecc5051d3164c27d2f5f269102cdff880e70a682c2e3433b1e3e5665d937"), looks := true }, kinds := [], alts := [], laidByText := true, laidKinds := [.sentinel, .sentinel, .sentinel], laidTests := true, laidLooks := .later }
def DeadKeepsUptoCardSaid : Prop := Claim7.holds Tryd.pinned (.plain (OpenSpec.upto deadKeepsSpec)) deadKeepsUptoCard

/-- THE SECOND FORM's CARD OF 'patoislaw18.DeadSilent'. -/
def deadSilentUptoCard : Claim7 := { stood := { row := deadSilentUptoRow, standIns := [], harness := (true, "ab40ecc5051d3164c27d2f5f269102cdff880e70a682c2e3433b1e3e5665d937"), looks := true }, kinds := [], alts := [], laidByText := true, laidKinds := [.sentinel, .sentinel, .sentinel], laidTests := true, laidLooks := .later }
def DeadSilentUptoCardSaid : Prop := Claim7.holds Tryd.pinned (.plain (OpenSpec.upto deadSilentSpec)) deadSilentUptoCard
end Rows
end Go.Proofs.YtjhgljfmheopmaaDoor
