/- The walks over text.Name and what it calls, beside nodes. No condition. -/
import Derived.Test.YtpogngdddendiaaDoorHA
import Derived.Test.YtpogngdddendiaaDoorHB
import Derived.Outline
import Derived.Test.YtpogngdddendiaaDoorBase
import Derived.Test.YtpogngdddendiaaDoorProg
import Derived.WalkSpells
import Derived.WalkLawsBesides
import Derived.Deep.LoopGhost
import Derived.Deep.DeepFit
import Derived.Lib.Hide
import Derived.WalkKit
set_option linter.unusedVariables false
set_option linter.unusedSimpArgs false
namespace Go.Proofs.YtpogngdddendiaaDoor
end Go.Proofs.YtpogngdddendiaaDoor

/- The words on errors and rows of numbers that several packages' walks use. No condition. -/
set_option linter.unusedVariables false
set_option linter.unusedSimpArgs false
namespace Go.Proofs.YtpogngdddendiaaDoor
open Go.RowKit

def intc (n : Int) : List Value := [.int .i64 n]
/-- An error that errors.New made. -/
def sentV (a : Addr) : Value := .iface 226 (.pointer (some a))
/-- A value that is an error with a place around another. -/
def AtV (w : World) (B i : Nat) (a : Addr) (v : Value) : Prop := ∃ g, v = .iface 81 (.pointer (some ⟨g, 0, none⟩)) ∧ B ≤ g ∧ w.cell? ⟨g, 0, none⟩ = some (.int .i64 i) ∧ w.cell? ⟨g, 1, none⟩ = some (.iface 226 (.pointer (some a)))
theorem AtV.below {w w' : World} {B i : Nat} {a : Addr} {v : Value} (h : AtV w B i a v) (hb : Below w.heap.size w w') : AtV w' B i a v :=
  let ⟨g, h1, h2, h3, h4⟩ := h
  ⟨g, h1, h2, cell_keep hb h3, cell_keep hb h4⟩
theorem AtV.mono {w : World} {B B' i : Nat} {a : Addr} {v : Value} (h : AtV w B i a v) (hb : B' ≤ B) : AtV w B' i a v :=
  let ⟨g, h1, h2, h3, h4⟩ := h
  ⟨g, h1, Nat.le_trans hb h2, h3, h4⟩
def AtRet (i : Nat) (a : Addr) (w : World) (e : Ending) (w' : World) : Prop := ∃ v, e = .returned v ∧ AtV w' w.heap.size i a v ∧ Below w.heap.size w w'

end Go.Proofs.YtpogngdddendiaaDoor

/- Programs as plain lists of nodes and as trees (chapter 5), with no program in sight. No condition. -/
set_option linter.unusedVariables false
set_option linter.unusedSimpArgs false
namespace Go.Proofs.YtpogngdddendiaaDoor

/-- A node ahead of its children. -/
def newL (kind n : Int) (s : List UInt8) (ls : List (List Nd)) : List Nd := ⟨kind, n, ls.length, 1 + ls.flatten.length, s⟩ :: ls.flatten
theorem newL_len (kind n : Int) (s : List UInt8) (ls : List (List Nd)) : (newL kind n s ls).length = 1 + ls.flatten.length := by simp [newL]; omega

/-- The children from place c on: so many are left. -/
def kidsGo (L : List Nd) (e : Nat) : Nat → Nat → List (List Nd)
  | 0, _ => []
  | r + 1, c => match L[c]? with
    | none => []
    | some x => if e ≤ c ∨ x.size < 1 ∨ x.size > (e : Int) - c then [] else ((L.drop c).take x.size.toNat) :: kidsGo L e r (c + x.size.toNat)
def kidsL (L : List Nd) : List (List Nd) := match L with
  | [] => []
  | x :: _ => kidsGo L (min x.size L.length).toNat x.k.toNat 1
theorem kidsGo_some {L : List Nd} {e r c : Nat} (h : c < L.length) (he : c < e) (h1 : ¬ L[c].size < 1) (h2 : ¬ L[c].size > (e : Int) - c) : kidsGo L e (r + 1) c = ((L.drop c).take L[c].size.toNat) :: kidsGo L e r (c + L[c].size.toNat) := by
  rw [kidsGo, List.getElem?_eq_getElem h]
  simp only
  rw [if_neg (by omega)]
theorem kidsGo_bad {L : List Nd} {e r c : Nat} (h : c < L.length) (h1 : L[c].size < 1 ∨ L[c].size > (e : Int) - c) : kidsGo L e r c = [] := by
  cases r with
  | zero => rfl
  | succ r =>
    rw [kidsGo, List.getElem?_eq_getElem h]
    simp only
    rw [if_pos (.inr h1)]
theorem kidsGo_end {L : List Nd} {e r c : Nat} (h1 : e ≤ c) : kidsGo L e r c = [] := by
  cases r with
  | zero => rfl
  | succ r =>
    rw [kidsGo]
    split
    · rfl
    · rw [if_pos (.inl h1)]
theorem kidsL_eq {L : List Nd} (h : 0 < L.length) : kidsL L = kidsGo L (min L[0].size L.length).toNat L[0].k.toNat 1 := by
  cases L with
  | nil => simp at h
  | cons x T => rfl
theorem flat_take (ls : List (List Nd)) (k : Nat) (h : k < ls.length) : (ls.take (k + 1)).flatten = (ls.take k).flatten ++ ls[k] := by
  rw [List.take_succ_eq_append_getElem h, List.flatten_append]; simp
theorem flat_take_le (ls : List (List Nd)) (k : Nat) : (ls.take k).flatten.length ≤ ls.flatten.length := by
  have h : ls.flatten = (ls.take k).flatten ++ (ls.drop k).flatten := by rw [← List.flatten_append, List.take_append_drop]
  rw [h, List.length_append]; omega
theorem flat_take_len (ls : List (List Nd)) (k : Nat) (h : k < ls.length) : (ls.take k).flatten.length + ls[k].length ≤ ls.flatten.length := by
  have := flat_take_le ls (k + 1)
  rwa [flat_take ls k h, List.length_append] at this
end Go.Proofs.YtpogngdddendiaaDoor
