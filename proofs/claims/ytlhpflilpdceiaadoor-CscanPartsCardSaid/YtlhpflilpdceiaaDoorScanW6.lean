/- The walk over package cscan's part. Bounds on the lengths. -/
import Derived.Test.YtlhpflilpdceiaaDoorScanW5
import Derived.Laws.IdiomStrings
set_option linter.unusedVariables false
set_option linter.unusedSimpArgs false
namespace Go.Proofs.YtlhpflilpdceiaaDoor
open Go.RowKit

/-- A block just laid, from base on. -/
def newT (t : TypeId) (cs : Array Value) (base : Nat) : TT := ⟨fun v => ∃ g, v = .pointer (some ⟨g, 0, none⟩), ⟨_, 0, rfl⟩, fun v x => ∀ g, v = .pointer (some ⟨g, 0, none⟩) → Blk x g t cs ∧ base ≤ g, fun _ _ _ h hb g hg => ⟨(h g hg).1.below hb, (h g hg).2⟩⟩
theorem cut_one {L : List UInt8} {i : Nat} (h : i < L.length) : cutL L i (i + 1) = [L[i]] := by
  rw [cut_succ L (Nat.le_refl _) h, cut_self, List.nil_append]
theorem Rdr.set4 {w : World} {B S : Nat} {s : ByteArray} {i g : Nat} (h : Rdr w B S s i) {cs : Array Value} (hg : Blk w g 48 cs) (a b c d : Value) : Rdr ((((w.setCell ⟨g, 0, none⟩ a).setCell ⟨g, 1, none⟩ b).setCell ⟨g, 2, none⟩ c).setCell ⟨g, 3, none⟩ d) B S s i := by
  have h1 : B ≠ g := Blk.apart h.1 hg (by decide)
  have h2 : S ≠ g := Blk.apart h.2 hg (by decide)
  exact ⟨(But.set4 g w a b c d).blk h.1 h1, (But.set4 g w a b c d).blk h.2 h2⟩
theorem below_set4 {w0 w : World} {n g : Nat} (h : Below n w0 w) (hg : n ≤ g) (a b c d : Value) : Below n w0 ((((w.setCell ⟨g, 0, none⟩ a).setCell ⟨g, 1, none⟩ b).setCell ⟨g, 2, none⟩ c).setCell ⟨g, 3, none⟩ d) :=
  (((h.setCell (p := ⟨g, 0, none⟩) hg a).setCell (p := ⟨g, 1, none⟩) hg b).setCell (p := ⟨g, 2, none⟩) hg c).setCell (p := ⟨g, 3, none⟩) hg d
theorem conv1 (d : UInt8) (W : World) : (convert 68 9 (.slice (some ⟨W.heap.size, 0, none⟩) 1 1)).run Tryd.prog (W.alloc (.cells #[.int .u8 d.toNat] 5)) = .ok (.string ⟨#[d]⟩) (W.alloc (.cells #[.int .u8 d.toNat] 5)) :=
  run_convert_bytes_back (P := Tryd.prog) _ 68 9 5 ⟨W.heap.size, 0, none⟩ 1 [d] Tryd.underlying68 Tryd.underlying5 Tryd.underlying9 fun j hj => by
    have hj0 : j = 0 := by simpa using hj
    subst hj0
    exact (Blk.new W _ _).cell 0
theorem Blk.alloc {w : World} {g : Nat} {t : TypeId} {cs : Array Value} (h : Blk w g t cs) (o : Obj) : Blk (w.alloc o) g t cs := h.below ((Below.refl _ _).alloc (Nat.le_refl _) _)
/-- An error stands where only a part's cells are written. -/
theorem AtE.part {w w' : World} {Ls : List Addr} {v : Value} {k i g : Nat} (h : AtE w Ls v k i) (hb : But g w w') (hg : w.cell? ⟨g, 1, none⟩ = some (.int .i64 0)) : AtE w' Ls v k i := by
  obtain ⟨j, a, b, h1, h2, h3, h4, h5⟩ := h
  have hne : b ≠ g := fun e => by
    rw [e, hg] at h5
    injection h5 with h5
    cases h5
  exact ⟨j, a, b, h1, h2, h3, hb.cell h4 hne, hb.cell h5 hne⟩
end Go.Proofs.YtlhpflilpdceiaaDoor
