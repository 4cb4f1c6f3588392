/- The walks over patoisref2.Plain, Escape: they say what package pattern's say. Bounds on the lengths. -/
import Derived.Test.YtjpfolbghjhodaaDoorRef2W2
import Derived.Laws.IdiomStrings
import Derived.Outline
set_option linter.unusedVariables false
set_option linter.unusedSimpArgs false
namespace Go.Proofs.YtjpfolbghjhodaaDoor
open Go.RowKit

def byc (c : UInt8) : List Value := [.int .u8 c.toNat]
theorem byc_len (c : UInt8) : (byc c).length = 1 := rfl
theorem infoU8 : (Tryd.prog.info? 5).map (fun i => (i.zero, i.size, i.bytes)) = some (some (.int .u8 0), 1, 1) := by kernel_rfl
/-- The text of a row of bytes. -/
theorem conv_any {W : World} {base n c : Nat} {A : Option Addr} {l : List UInt8} (h : W.ownsRow base 5 1 (.slice A n c) n (l.flatMap byc)) (hn : n = l.length) :
    (convert 105 9 (.slice A n c)).run Tryd.prog W = .ok (.string ⟨l.toArray⟩) W := by
  subst hn
  rcases h.2 with ⟨he, h0⟩ | ⟨g, cap, cur, he, hb, hg, hnc, hcm, hcs, ht⟩
  · obtain rfl := List.eq_nil_of_length_eq_zero h0
    simp only [Value.slice.injEq] at he
    obtain ⟨rfl, _, rfl⟩ := he
    kernel_rfl
  · simp only [Value.slice.injEq] at he
    obtain ⟨rfl, _, rfl⟩ := he
    refine run_convert_bytes_back W _ _ 5 ⟨g, 0, none⟩ c l Tryd.underlying105 Tryd.underlying5 Tryd.underlying9 fun j hj => ?_
    have h1 := h.cellAt j (by omega)
    rw [Addr.add_lit, Nat.zero_add]
    rw [h1]
    have := flat_at (enc := byc) byc_len l j hj 0 _ rfl
    simpa [byc] using this

end Go.Proofs.YtjpfolbghjhodaaDoor
