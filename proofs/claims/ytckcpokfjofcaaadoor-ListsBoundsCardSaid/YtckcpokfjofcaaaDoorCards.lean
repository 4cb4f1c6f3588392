/-
  DERIVED. GIVEN WITH THE SEED: THE CARDS: each row of YtckcpokfjofcaaaDoorRows.lean that lists a variable, with what it lists TIED to the program's text (the seventh form; the later family's looks); each row that meets fmt, with fmt's text TOLD by the authors' own Lean function (tested against real Go, not proved from fmt's source: count such statements apart). THE CARD IS WHAT COUNTS. Prove the row's statement (the work); the ties are given (YtckcpokfjofcaaaDoorTie.lean); close each card by the builder's one call (the guide's Derived/Test/ToyasCard.lean, 'card_holds'). Laid BY PROGRAM, IN A SANDBOX (cutbox-door.mjs). By AI agents, Wed Nov 11 2026. No macro, syntax, notation, axiom, sorry.
-/
import Derived.Test.YtckcpokfjofcaaaDoorRows
import GoSem.ClaimSeven
namespace Go.Proofs.YtckcpokfjofcaaaDoor
namespace Rows

/-- THE TIED CARD OF 'patoislaw3.ListsGroup'. -/
def listsGroupCard : Claim7 := { stood := { row := listsGroupRow, standIns := [], harness := (true, "45fbbf26bfeaa3b0cca5d073ae362ca3a34d4627be52fc9d35843a85e07224af"), looks := true }, kinds := [], alts := [], laidByText := true, laidKinds := [.sentinel], laidTests := true, laidLooks := .later }
def ListsGroupCardSaid : Prop := Claim7.holds Tryd.pinned (.plain (OpenSpec.ofChange listsGroupSpec)) listsGroupCard

/-- THE TIED CARD OF 'patoislaw3.ListsOwn'. -/
def listsOwnCard : Claim7 := { stood := { row := listsOwnRow, standIns := [], harness := (true, "45fbbf26bfeaa3b0cca5d073ae362ca3a34d4627be52fc9d35843a85e07224af"), looks := true }, kinds := [], alts := [], laidByText := true, laidKinds := [.sentinel], laidTests := true, laidLooks := .later }
def ListsOwnCardSaid : Prop := Claim7.holds Tryd.pinned (.plain (OpenSpec.ofChange listsOwnSpec)) listsOwnCard

/-- THE TIED CARD OF 'patoislaw3.ListsBounds'. -/
def listsBoundsCard : Claim7 := { stood := { row := listsBoundsRow, standIns := [], harness := (true, "45fbbf26bfeaa3b0cca5d073ae362ca3a34d4627be52fc9d35843a85e07224af"), looks := true }, kinds := [], alts := [], laidByText := true, laidKinds := [.sentinel], laidTests := true, laidLooks := .later }
def ListsBoundsCardSaid : Prop := Claim7.holds Tryd.pinned (.plain (OpenSpec.ofChange listsBoundsSpec)) listsBoundsCard

/-- THE TIED CARD OF 'patoislaw3.ListsFlat'. -/
def listsFlatCard : Claim7 := { stood := { row := listsFlatRow, standIns := [], harness := (true, "45fbbf26bfeaa3b0cca5d073ae362ca3a34d4627be52fc9d35843a85e07224af"), looks := true }, kinds := [], alts := [], laidByText := true, laidKinds := [.sentinel], laidTests := true, laidLooks := .later }
def ListsFlatCardSaid : Prop := Claim7.holds Tryd.pinned (.plain (OpenSpec.ofChange listsFlatSpec)) listsFlatCard

/-- THE TIED CARD OF 'patoislaw3.ListsPick'. -/
def listsPickCard : Claim7 := { stood := { row := listsPickRow, standIns := [], harness := (true, "45fbbf26bfeaa3b0cca5d073ae362ca3a34d4627be52fc9d35843a85e07224af"), looks := true }, kinds := [], alts := [], laidByText := true, laidKinds := [.data, .data, .data, .sentinel], laidTests := true, laidLooks := .later }
def ListsPickCardSaid : Prop := Claim7.holds Tryd.pinned (.plain (OpenSpec.ofChange listsPickSpec)) listsPickCard

/-- THE SECOND FORM's CARD OF 'patoislaw3.ListsGroup'. -/
def listsGroupUptoCard : Claim7 := { stood := { row := listsGroupUptoRow, standIns := [], harness := (true, "45fbbf26bfeaa3b0cca5d073ae362ca3a34d4627be52fc9d35843a85e07224af"), looks := true }, kinds := [], alts := [], laidByText := true, laidKinds := [.sentinel], laidTests := true, laidLooks := .later }
def ListsGroupUptoCardSaid : Prop := Claim7.holds Tryd.pinned (.plain (OpenSpec.upto listsGroupSpec)) listsGroupUptoCard

/-- THE SECOND FORM's CARD OF 'patoislaw3.ListsOwn'. -/
def listsOwnUptoCard : Claim7 := { stood := { row := listsOwnUptoRow, standIns := [], harness := (true, "45fbbf26bfeaa3b0cca5d073ae362ca3a34d4627be52fc9d35843a85e07224af"), looks := true }, kinds := [], alts := [], laidByText := true, laidKinds := [.sentinel], laidTests := true, laidLooks := .later }
def ListsOwnUptoCardSaid : Prop := Claim7.holds Tryd.pinned (.plain (OpenSpec.upto listsOwnSpec)) listsOwnUptoCard

/-- THE SECOND FORM's CARD OF 'patoislaw3.ListsBounds'. -/
def listsBoundsUptoCard : Claim7 := { stood := { row := listsBoundsUptoRow, standIns := [], harness := (true, "45fbbf26bfeaa3b0cca5d073ae362ca3a34d4627be52fc9d35843a85e07224af"), looks := true }, kinds := [], alts := [], laidByText := true, laidKinds := [.sentinel], laidTests := true, laidLooks := .later }
def ListsBoundsUptoCardSaid : Prop := Claim7.holds Tryd.pinned (.plain (OpenSpec.upto listsBoundsSpec)) listsBoundsUptoCard

/-- THE SECOND FORM's CARD OF 'patoislaw3.ListsFlat'. -/
def listsFlatUptoCard : Claim7 := { stood := { row := listsFlatUptoRow, standIns := [], harness := (true, "45fbbf26bfeaa3b0cca5d073ae362ca3a34d4627be52fc9d35843a85e07224af"), looks := true }, kinds := [], alts := [], laidByText := true, laidKinds := [.sentinel], laidTests := true, laidLooks := .later }
def ListsFlatUptoCardSaid : Prop := Claim7.holds Tryd.pinned (.plain (OpenSpec.upto listsFlatSpec)) listsFlatUptoCard

/-- THE SECOND FORM's CARD OF 'patoislaw3.ListsPick'. -/
def listsPickUptoCard : Claim7 := { stood := { row := listsPickUptoRow, standIns := [], harness := (true, "45fbbf26bfeaa3b0cca5d073ae362ca3a34d4627be52fc9d35843a85e07224af"), looks := true }, kinds := [], alts := [], laidByText := true, laidKinds := [.data, .data, .data, .sentinel], laidTests := true, laidLooks := .later }
def ListsPickUptoCardSaid : Prop := Claim7.holds Tryd.pinned (.plain (OpenSpec.upto listsPickSpec)) listsPickUptoCard
end Rows
end Go.Proofs.YtckcpokfjofcaaaDoor
