/-
  DERIVED. GIVEN WITH THE SEED: THE CARDS: each row of YtpogngdddendiaaDoorRows.lean that lists a variable, with what it lists TIED to the program's text (the seventh form; the later family's looks); each row that meets fmt, with fmt's text TOLD by the authors' own Lean function (tested against real Go, not proved from fmt's source: count such statements apart). THE CARD IS WHAT COUNTS. Prove the row's statement (the work); the ties are given (YtpogngdddendiaaDoorTie.lean); close each card by the builder's one call (the guide's Derived/Test/ToyasCard.lean, 'card_holds'). Laid BY PROGRAM, IN A SANDBOX (cutbox-door.mjs). By AI agents, Wed Nov 11 2026. No macro, syntax, notation, axiom, sorry.
-/
import Derived.Test.YtpogngdddendiaaDoorRows
import GoSem.ClaimSeven
namespace Go.Proofs.YtpogngdddendiaaDoor
namespace Rows

/-- THE TIED CARD OF 'patoislaw24.ThreadKeeps'. -/
def threadKeepsCard : Claim7 := { stood := { row := threadKeepsRow, standIns := [], harness := (true, "8509a7b4cc69d49dfc5fa5ef6568e393f28a109015c28113f77cd7fcdda0efdf"), looks := true }, kinds := [], alts := [], laidByText := true, laidKinds := [.sentinel, .sentinel, .sentinel, .sentinel], laidTests := true, laidLooks := .later }
def ThreadKeepsCardSaid : Prop := Claim7.holds Tryd.pinned (.plain (OpenSpec.ofChange threadKeepsSpec)) threadKeepsCard

/-- THE TIED CARD OF 'patoislaw24.ThreadJumps'. -/
def threadJumpsCard : Claim7 := { stood := { row := threadJumpsRow, standIns := [], harness := (true, "8509a7b4cc69d49dfc5fa5ef6568e393f28a109015c28113f77cd7fcdda0efdf"), looks := true }, kinds := [], alts := [], laidByText := true, laidKinds := [.sentinel, .sentinel], laidTests := true, laidLooks := .later }
def ThreadJumpsCardSaid : Prop := Claim7.holds Tryd.pinned (.plain (OpenSpec.ofChange threadJumpsSpec)) threadJumpsCard

/-- THE TIED CARD OF 'patoislaw24.ThreadReach'. -/
def threadReachCard : Claim7 := { stood := { row := threadReachRow, standIns := [], harness := (true, "8509a7b4cc69d49dfc5fa5ef6568e393f28a109015c28113f77cd7fcdda0efdf"), looks := true }, kinds := [], alts := [], laidByText := true, laidKinds := [.sentinel, .sentinel], laidTests := true, laidLooks := .later }
def ThreadReachCardSaid : Prop := Claim7.holds Tryd.pinned (.plain (OpenSpec.ofChange threadReachSpec)) threadReachCard

/-- THE TIED CARD OF 'patoislaw21.PassesParts'. -/
def passesPartsCard : Claim7 := { stood := { row := passesPartsRow, standIns := [], harness := (true, "8509a7b4cc69d49dfc5fa5ef6568e393f28a109015c28113f77cd7fcdda0efdf"), looks := true }, kinds := [], alts := [], laidByText := true, laidKinds := [.sentinel, .sentinel, .sentinel, .sentinel, .sentinel, .sentinel, .sentinel, .sentinel, .sentinel, .sentinel, .sentinel, .sentinel, .sentinel, .sentinel, .sentinel, .sentinel, .sentinel], laidTests := true, laidLooks := .later }
def PassesPartsCardSaid : Prop := Claim7.holds Tryd.pinned (.plain (OpenSpec.ofChange passesPartsSpec)) passesPartsCard

/-- THE TIED CARD OF 'patoislaw22.CodeChecks'. -/
def codeChecksCard : Claim7 := { stood := { row := codeChecksRow, standIns := [], harness := (true, "8509a7b4cc69d49dfc5fa5ef6568e393f28a109015c28113f77cd7fcdda0efdf"), looks := true }, kinds := [], alts := [], laidByText := true, laidKinds := [.data, .data, .data, .sentinel, .sentinel, .sentinel, .sentinel, .sentinel, .sentinel, .sentinel, .sentinel, .sentinel, .sentinel, .sentinel, .sentinel, .sentinel, .sentinel, .sentinel, .sentinel, .sentinel], laidTests := true, laidLooks := .later }
def CodeChecksCardSaid : Prop := Claim7.holds Tryd.pinned (.plain (OpenSpec.ofChange codeChecksSpec)) codeChecksCard

/-- THE SECOND FORM's CARD OF 'patoislaw24.ThreadKeeps'. -/
def threadKeepsUptoCard : Claim7 := { stood := { row := threadKeepsUptoRow, standIns := [], harness := (true, "8509a7b4cc69d49dfc5fa5ef6568e393f28a109015c28113f77cd7fcdda0efdf"), looks := true }, kinds := [], alts := [], laidByText := true, laidKinds := [.sentinel, .sentinel, .sentinel, .sentinel], laidTests := true, laidLooks := .later }
def ThreadKeepsUptoCardSaid : Prop := Claim7.holds Tryd.pinned (.plain (OpenSpec.upto threadKeepsSpec)) threadKeepsUptoCard

/-- THE SECOND FORM's CARD OF 'patoislaw24.ThreadJumps'. -/
def threadJumpsUptoCard : Claim7 := { stood := { row := threadJumpsUptoRow, standIns := [], harness := (true, "8509a7b4cc69d49dfc5fa5ef6568e393f28a109015c28113f77cd7fcdda0efdf"), looks := true }, kinds := [], alts := [], laidByText := true, laidKinds := [.sentinel, .sentinel], laidTests := true, laidLooks := .later }
def ThreadJumpsUptoCardSaid : Prop := Claim7.holds Tryd.pinned (.plain (OpenSpec.upto threadJumpsSpec)) threadJumpsUptoCard

/-- THE SECOND FORM's CARD OF 'patoislaw24.ThreadReach'. -/
def threadReachUptoCard : Claim7 := { stood := { row := threadReachUptoRow, standIns := [], harness := (true, "8509a7b4cc69d49dfc5fa5ef6568e393f28a109015c28113f77cd7fcdda0efdf"), looks := true }, kinds := [], alts := [], laidByText := true, laidKinds := [.sentinel, .sentinel], laidTests := true, laidLooks := .later }
def ThreadReachUptoCardSaid : Prop := Claim7.holds Tryd.pinned (.plain (OpenSpec.upto threadReachSpec)) threadReachUptoCard

/-- THE SECOND FORM's CARD OF 'patoislaw21.PassesParts'. -/
def passesPartsUptoCard : Claim7 := { stood := { row := passesPartsUptoRow, standIns := [], harness := (true, "8509a7b4cc69d49dfc5fa5ef6568e393f28a109015c28113f77cd7fcdda0efdf"), looks := true }, kinds := [], alts := [], laidByText := true, laidKinds := [.sentinel, .sentinel, .sentinel, .sentinel, .sentinel, .sentinel, .sentinel, .sentinel, .sentinel, .sentinel, .sentinel, .sentinel, .sentinel, .sentinel, .sentinel, .sentinel, .sentinel], laidTests := true, laidLooks := .later }
def PassesPartsUptoCardSaid : Prop := Claim7.holds Tryd.pinned (.plain (OpenSpec.upto passesPartsSpec)) passesPartsUptoCard

/-- THE SECOND FORM's CARD OF 'patoislaw22.CodeChecks'. -/
def codeChecksUptoCard : Claim7 := { stood := { row := codeChecksUptoRow, standIns := [], harness := (true, "8509a7b4cc69d49dfc5fa5ef6568e393f28a109015c28113f77cd7fcdda0efdf"), looks := true }, kinds := [], alts := [], laidByText := true, laidKinds := [.data, .data, .data, .sentinel, .sentinel, .sentinel, .sentinel, .sentinel, .sentinel, .sentinel, .sentinel, .sentinel, .sentinel, .sentinel, .sentinel, .sentinel, .sentinel, .sentinel, .sentinel, .sentinel], laidTests := true, laidLooks := .later }
def CodeChecksUptoCardSaid : Prop := Claim7.holds Tryd.pinned (.plain (OpenSpec.upto codeChecksSpec)) codeChecksUptoCard
end Rows
end Go.Proofs.YtpogngdddendiaaDoor
