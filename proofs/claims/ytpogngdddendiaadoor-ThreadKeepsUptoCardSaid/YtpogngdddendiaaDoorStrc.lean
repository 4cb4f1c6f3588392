/- A text as a cell of memory. No condition. -/
import Derived.Test.YtpogngdddendiaaDoorProg
import Derived.Test.YtpogngdddendiaaDoorBase
set_option linter.unusedVariables false
set_option linter.unusedSimpArgs false
namespace Go.Proofs.YtpogngdddendiaaDoor
open Go.RowKit

theorem infoStr : (Tryd.prog.info? 9).map (fun i => (i.zero, i.size, i.bytes)) = some (some (.string ByteArray.empty), 1, 16) := by kernel_rfl

/-- a string as a cell -/
def strc (s : List UInt8) : List Value := [.string ⟨s.toArray⟩]
theorem strc_len (s : List UInt8) : (strc s).length = 1 := rfl
theorem strc_one (s : List UInt8) : ∀ u ∈ strc s, u.oneCell' = true := by intro u hu; simp [strc] at hu; subst hu; rfl

end Go.Proofs.YtpogngdddendiaaDoor
