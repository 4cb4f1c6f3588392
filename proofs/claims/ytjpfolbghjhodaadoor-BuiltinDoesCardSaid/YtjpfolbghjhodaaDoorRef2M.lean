/- Chapter 2's document against the models of package pattern, with no program in sight. No condition. -/
import Derived.Test.YtjpfolbghjhodaaDoorPatM
set_option linter.unusedVariables false
set_option linter.unusedSimpArgs false
namespace Go.Proofs.YtjpfolbghjhodaaDoor

/-- The first living ] of these, from place k on. -/
def closeFrom : List Piece → Nat → Option Nat
  | [], _ => none
  | p :: t, k => if p.isB 93 then some k else closeFrom t (k + 1)
theorem closeFrom_find : ∀ (l : List Piece) (k : Nat), closeFrom l k = (l.findIdx? (·.isB 93)).map (· + k)
  | [], k => by simp [closeFrom]
  | p :: t, k => by
    rw [closeFrom, List.findIdx?_cons]
    cases h : p.isB 93
    · simp only [Bool.false_eq_true, if_false]
      rw [closeFrom_find t (k + 1)]
      cases t.findIdx? (·.isB 93) <;> simp; omega
    · simp
/-- Where the set at place i ends. -/
theorem closes_setEnd (l : List Piece) (i : Nat) : closeFrom (l.drop (i + 2)) (i + 2) = (setEnd (l.drop (i + 1))).map (· + (i + 1)) := by
  rw [closeFrom_find, setEnd, List.drop_drop]
  cases (l.drop (i + 2)).findIdx? (·.isB 93) with
  | none => rw [show i + 1 + 1 = i + 2 by omega]; simp_all
  | some j => rw [show i + 1 + 1 = i + 2 by omega]; simp_all; omega
end Go.Proofs.YtjpfolbghjhodaaDoor
