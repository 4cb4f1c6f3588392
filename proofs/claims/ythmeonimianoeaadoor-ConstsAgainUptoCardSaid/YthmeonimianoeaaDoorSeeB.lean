/- The words on errors and rows of numbers that several packages' walks use. No condition. -/
import Derived.Test.YthmeonimianoeaaDoorBase
import Derived.Test.YthmeonimianoeaaDoorProg
import Derived.WalkSpells
import Derived.WalkLawsBesides
import Derived.Deep.LoopGhost
import Derived.Deep.DeepFit
import Derived.Lib.Hide
import Derived.WalkKit
set_option linter.unusedVariables false
set_option linter.unusedSimpArgs false
namespace Go.Proofs.YthmeonimianoeaaDoor
open Go.RowKit

def intc (n : Int) : List Value := [.int .i64 n]
/-- An error that errors.New made. -/
def sentV (a : Addr) : Value := .iface 191 (.pointer (some a))
/-- A value that is an error with a place around another. -/
def AtV (w : World) (B i : Nat) (a : Addr) (v : Value) : Prop := ∃ g, v = .iface 76 (.pointer (some ⟨g, 0, none⟩)) ∧ B ≤ g ∧ w.cell? ⟨g, 0, none⟩ = some (.int .i64 i) ∧ w.cell? ⟨g, 1, none⟩ = some (.iface 191 (.pointer (some a)))
theorem AtV.below {w w' : World} {B i : Nat} {a : Addr} {v : Value} (h : AtV w B i a v) (hb : Below w.heap.size w w') : AtV w' B i a v :=
  let ⟨g, h1, h2, h3, h4⟩ := h
  ⟨g, h1, h2, cell_keep hb h3, cell_keep hb h4⟩
theorem AtV.mono {w : World} {B B' i : Nat} {a : Addr} {v : Value} (h : AtV w B i a v) (hb : B' ≤ B) : AtV w B' i a v :=
  let ⟨g, h1, h2, h3, h4⟩ := h
  ⟨g, h1, Nat.le_trans hb h2, h3, h4⟩
def AtRet (i : Nat) (a : Addr) (w : World) (e : Ending) (w' : World) : Prop := ∃ v, e = .returned v ∧ AtV w' w.heap.size i a v ∧ Below w.heap.size w w'

end Go.Proofs.YthmeonimianoeaaDoor
