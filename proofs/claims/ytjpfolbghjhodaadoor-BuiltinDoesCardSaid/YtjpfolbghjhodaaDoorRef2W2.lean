/- The walks over patoisref2.Live, Plain, Escape: they say what package pattern's say. Bounds on the lengths. -/
import Derived.Test.YtjpfolbghjhodaaDoorRef2W1
import Derived.Laws.IdiomStrings
import Derived.Outline
set_option linter.unusedVariables false
set_option linter.unusedSimpArgs false
namespace Go.Proofs.YtjpfolbghjhodaaDoor
open Go.RowKit

theorem name_ret2 {a b : Bool} (h : a = b) : Ending.returned (.bool a) = .returned (.bool b) := by rw [h]
theorem ReadRet.rd {s : ByteArray} {w : World} {e : Ending} {w' : World} (h : ReadRet s w e w') : ∃ A c, e = .returned (.slice A (piecesOf s.data.toList 0).length c) ∧ RdL w' 2 bcs A (piecesOf s.data.toList 0) ∧ Below w.heap.size w w' := by
  obtain ⟨v, rfl, h1, h2⟩ := h
  obtain ⟨A, c, rfl, _, _, h3, _⟩ := RdL.of_own bcs_len h1 rfl
  exact ⟨A, c, rfl, h3, h2⟩
theorem closeI_nonneg (l : List Piece) (i : Nat) : decide (0 ≤ closeI (l.drop (i + 2)) (i + 2)) = (setEnd (l.drop (i + 1))).isSome := by
  unfold closeI
  rw [closes_setEnd]
  cases setEnd (l.drop (i + 1)) with
  | none => rfl
  | some j => simp; omega
theorem liveP_dead {p : Piece} (h : p.dead = true) (t : List Piece) : liveP (p :: t) = liveP t := by simp [liveP, Piece.isB, h]

end Go.Proofs.YtjpfolbghjhodaaDoor
