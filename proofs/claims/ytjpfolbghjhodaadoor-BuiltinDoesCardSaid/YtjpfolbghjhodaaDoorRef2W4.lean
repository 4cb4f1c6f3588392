/- The walks over patoisref2.Escape and has: they say what package pattern's say. Bounds on the lengths. -/
import Derived.Test.YtjpfolbghjhodaaDoorRef2W3
import Derived.Deep.CutRange
import Derived.Outline
set_option linter.unusedVariables false
set_option linter.unusedSimpArgs false
namespace Go.Proofs.YtjpfolbghjhodaaDoor
open Go.RowKit

theorem take_u8 (s : ByteArray) (k : Nat) (h : k < s.size) : s.data.toList.take (k + 1) = s.data.toList.take k ++ [s[k]] := by
  rw [List.take_succ_eq_append_getElem h]; rfl
theorem esc_snoc (l : List UInt8) (c : UInt8) : escapeL (l ++ [c]) = escapeL l ++ (if escB c then [92, c] else [c]) := by simp [escapeL]
end Go.Proofs.YtjpfolbghjhodaaDoor
