/- The walks over package pattern's among and in: whether a byte is one of a set. Fewer than a million pieces. -/
import Derived.Test.YthmeonimianoeaaDoorPatW1
set_option linter.unusedVariables false
set_option linter.unusedSimpArgs false
namespace Go.Proofs.YthmeonimianoeaaDoor
open Go.RowKit

theorem u8_le {a b : UInt8} : a ≤ b ↔ (a.toNat : Int) ≤ (b.toNat : Int) := by rw [UInt8.le_iff_toNat_le]; omega
theorem u8_eq {a b : UInt8} : a = b ↔ (a.toNat : Int) = (b.toNat : Int) := by rw [← UInt8.toNat_inj]; omega

/-- What a piece of the list gives the walk. -/
theorem piece_cells {w : World} {b o : Nat} {l : List Piece} (h : RdL w 3 pcs (some ⟨b, o, none⟩) l) {k : Nat} (hk : k < l.length) :
    w.cell? ⟨b, o + k * 3, none⟩ = some (.int .u8 l[k].c.toNat) ∧ w.cell? ⟨b, o + k * 3 + 1, none⟩ = some (.bool l[k].dead) ∧ w.cell? ⟨b, o + k * 3 + 2, none⟩ = some (.int .i64 l[k].frm) := by
  have := (h.at_ hk).2
  exact ⟨by simpa using this 0 _ rfl, this 1 _ rfl, this 2 _ rfl⟩

end Go.Proofs.YthmeonimianoeaaDoor
