/- A text of one byte made of a slice of one byte. No condition. -/
import Derived.Test.YtjhgljfmheopmaaDoorProg
import Derived.Test.YtjhgljfmheopmaaDoorRel
import Derived.WalkKit
import Derived.WalkSpells
import Derived.WalkLawsBesides
set_option linter.unusedVariables false
set_option linter.unusedSimpArgs false
namespace Go.Proofs.YtjhgljfmheopmaaDoor
open Go.RowKit

theorem nums_one (n : Int) : strOfNums [n] = { data := #[UInt8.ofNat n.toNat] } := rfl
theorem run_conv_u8 (W : World) (g : Nat) (n : Int) (h : W.cell? ⟨g, 0, none⟩ = some (.int .u8 n)) : (convert 52 9 (.slice (some ⟨g, 0, none⟩) 1 1)).run Tryd.prog W = .ok (.string { data := #[UInt8.ofNat n.toNat] }) W := by
  have hc : ∀ i, i < 1 → W.cell? ⟨g, 0 + i, none⟩ = some (.int .u8 ([n].getD i 0)) := by
    intro i hi
    have hi0 : i = 0 := by omega
    subst hi0
    exact h
  have h2 := run_convert_bytes_arg (P := Tryd.prog) W 52 5 Tryd.underlying52 Tryd.underlying5 g 0 1 1 [n] rfl hc 9 Tryd.underlying9
  rw [nums_one] at h2
  exact h2
/-- a slice of one byte, which holds -/
def oneI (n : Int) : TT where
  pu v := ∃ g, v = .slice (some ⟨g, 0, none⟩) 1 1
  ne := ⟨_, 0, rfl⟩
  ho v x := ∀ g, v = .slice (some ⟨g, 0, none⟩) 1 1 → x.cell? ⟨g, 0, none⟩ = some (.int .u8 n)
  st v x x' h hb g hg := cell_keep hb (h g hg)
end Go.Proofs.YtjhgljfmheopmaaDoor
