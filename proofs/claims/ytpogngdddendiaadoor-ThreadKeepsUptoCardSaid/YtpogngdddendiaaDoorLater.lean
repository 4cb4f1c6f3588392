/- A region that draws its order, whose operations read, and whose calls change nothing that was there: one walk in the order of the text serves every order. No condition. -/
import Derived.Test.YtpogngdddendiaaDoorBase
import Derived.Deep.Quiet
import Derived.Deep.QuietTactic
import Derived.BigQuiet
set_option linter.unusedVariables false
namespace Go.Proofs.YtpogngdddendiaaDoor
open Go.RowKit

/-- A world in which all that was there in w0 stands as it stood. -/
structure Later (w0 : World) where
  val : World
  below : Below w0.heap.size w0 val

def Later.start (w0 : World) : Later w0 := ⟨{ w0 with drawn := w0.drawn + 1 }, (Below.refl _ _).drew⟩

instance (w0 : World) : Nonempty (Later w0) := ⟨Later.start w0⟩

theorem Later.cell {w0 : World} {p : Addr} {v : Value} (h : w0.cell? p = some v) : ∀ x : Later w0, x.val.cell? p = some v := fun x => cell_keep x.below h

theorem wp_region_later {P : Program} {id : Nat} {Q : Exit → Act → World → Prop} {a : Act} {w : World} {l : List Oper} (hm : P.follows .mixedOrders = true) (hB : Region.lexB .any l.toArray = true)
    (h : wpQuiet P l.toArray (fun w' => ∃ x : Later w, w' = x.val) (fun a' => ∀ w', (∃ x : Later w, w' = x.val) → Q .normal a' w') l a) : (Code.region id l.toArray true).wp P Q a w :=
  wp_region_quiet (C := fun w' => ∃ x : Later w, w' = x.val) hm hB ⟨Later.start w, rfl⟩ (by simpa using h)

/-- A callee that hands back v and changes nothing that was there. -/
theorem Calls.later {P : Program} {f : FuncId} {args : Array Value} {w0 : World} {x : Later w0} {v : Value} (h : Calls P f args x.val (Ret x.val v)) :
    Calls P f args x.val fun e w'' => e = .returned v ∧ ∃ y : Later w0, w'' = y.val :=
  h.mono fun _ w' ⟨he, hb⟩ => ⟨he, ⟨w', x.below.trans (hb.mono x.below.size)⟩, rfl⟩
/-- .. and one that leaves the world as it is. -/
theorem Calls.later_same {P : Program} {f : FuncId} {args : Array Value} {w0 : World} {x : Later w0} {v : Value} (h : Calls P f args x.val fun e w' => e = .returned v ∧ w' = x.val) :
    Calls P f args x.val fun e w'' => e = .returned v ∧ ∃ y : Later w0, w'' = y.val :=
  h.mono fun _ w' ⟨he, hb⟩ => ⟨he, x, hb⟩
end Go.Proofs.YtpogngdddendiaaDoor
