/- What the package-level errors hold, out of the row's list. No condition. -/
import Derived.Test.YtpogngdddendiaaDoorOpenN
set_option linter.unusedVariables false
namespace Go.Proofs.YtpogngdddendiaaDoor
open Go.RowKit

theorem starErr : Tryd.prog.types[226]?.isSome = true := by kernel_rfl
theorem rowErr (u : TypeId) (h : Tryd.prog.typeName? 3 u = some "*errors.errorString") : u = 226 :=
  typeName_ptr_named (nm := "errors.errorString") (by rw [show ("*" ++ "errors.errorString" : String) = "*errors.errorString" by decide]; kernel_rfl) (by kernel_rfl) (by decide) u (by rw [show ("*" ++ "errors.errorString" : String) = "*errors.errorString" by decide]; exact h)
theorem cellsErr : Tryd.prog.cellsOf 240 = 1 := by kernel_rfl
theorem gNode : Tryd.prog.globalNamed "patois/api.ErrNode" = some 3 := by kernel_rfl
theorem gNest : Tryd.prog.globalNamed "patois/api.ErrNest" = some 4 := by kernel_rfl
theorem gMany : Tryd.prog.globalNamed "patois/api.ErrMany" = some 0 := by kernel_rfl
theorem tNode : (Tryd.prog.globals[3]?).map (·.type) = some 25 := by kernel_rfl
theorem tNest : (Tryd.prog.globals[4]?).map (·.type) = some 25 := by kernel_rfl
theorem tMany : (Tryd.prog.globals[0]?).map (·.type) = some 25 := by kernel_rfl

/-- three listed errors -/
theorem errs3 {W : World} {r : List (String × DataW Unit)} (h : laidMet Tryd.prog (("patois/api.ErrNest", Rows.laid_patois_api_ErrNest) :: ("patois/api.ErrNode", Rows.laid_patois_api_ErrNode) :: ("patois/api.ErrMany", Rows.laid_patois_api_ErrMany) :: r) W) : ∃ aN aT aM, ErrW W aN aT aM := by
  obtain ⟨a0, s0, v0, _, _, _⟩ := laid_sentinel h gNest tNest Tryd.underlying25 rowErr Tryd.underlying226 Tryd.underlying240 rfl rfl Tryd.underlying9 cellsErr cellsStr
  obtain ⟨a1, s1, v1, _, _, _⟩ := laid_sentinel h.tail gNode tNode Tryd.underlying25 rowErr Tryd.underlying226 Tryd.underlying240 rfl rfl Tryd.underlying9 cellsErr cellsStr
  obtain ⟨a2, s2, v2, _, _, _⟩ := laid_sentinel h.tail.tail gMany tMany Tryd.underlying25 rowErr Tryd.underlying226 Tryd.underlying240 rfl rfl Tryd.underlying9 cellsErr cellsStr
  exact ⟨a1, a0, a2, World.var?_cell gNode v1 0, World.var?_cell gNest v0 0, World.var?_cell gMany v2 0⟩
end Go.Proofs.YtpogngdddendiaaDoor
