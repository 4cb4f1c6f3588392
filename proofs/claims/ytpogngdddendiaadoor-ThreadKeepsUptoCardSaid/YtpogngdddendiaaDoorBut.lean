/- Memory where one block changes: all else stands. No condition. -/
import Derived.Test.YtpogngdddendiaaDoorBase
set_option linter.unusedVariables false
set_option linter.unusedSimpArgs false
namespace Go.Proofs.YtpogngdddendiaaDoor
open Go.RowKit

/-- All blocks that were there, but one, stand as they stood. -/
structure But (B : Nat) (w w' : World) : Prop where
  os : w'.os = w.os
  tape : w'.tape = w.tape
  output : w'.output = w.output
  size : w.heap.size ≤ w'.heap.size
  block : ∀ k, k < w.heap.size → k ≠ B → w'.heap[k]? = w.heap[k]?
theorem But.refl (B : Nat) (w : World) : But B w w := ⟨rfl, rfl, rfl, Nat.le_refl _, fun _ _ _ => rfl⟩
theorem But.trans {B : Nat} {a b c : World} (h : But B a b) (k : But B b c) : But B a c :=
  ⟨k.os.trans h.os, k.tape.trans h.tape, k.output.trans h.output, Nat.le_trans h.size k.size, fun i hi hn => (k.block i (Nat.lt_of_lt_of_le hi h.size) hn).trans (h.block i hi hn)⟩
theorem But.of {B : Nat} {w w' : World} (h : Below w.heap.size w w') : But B w w' := ⟨h.os, h.tape, h.output, h.size, fun k hk _ => h.block k hk⟩
/-- From a later base on. -/
theorem But.of2 {B : Nat} {w0 w w' : World} (h : But B w0 w) (h2 : Below w0.heap.size w w') : But B w0 w' :=
  ⟨h2.os.trans h.os, h2.tape.trans h.tape, h2.output.trans h.output, Nat.le_trans h.size h2.size, fun k hk hn => (h2.block k hk).trans (h.block k hk hn)⟩
theorem But.set {B : Nat} (w : World) (i : Nat) (u : Value) : But B w (w.setCell ⟨B, i, none⟩ u) :=
  ⟨rfl, rfl, rfl, by simp [World.setCell], fun k hk hn => Below.heap_setCell _ _ _ _ hn⟩
theorem But.below {B n : Nat} {w w' : World} (h : But B w w') (hn : n ≤ B) (hs : n ≤ w.heap.size) : Below n w w' :=
  ⟨h.os, h.tape, h.output, h.size, fun k hk => h.block k (by omega) (by omega)⟩
theorem But.cell {B : Nat} {w w' : World} {p : Addr} {v : Value} (h : But B w w') (hc : w.cell? p = some v) (hp : p.block ≠ B) : w'.cell? p = some v :=
  (World.cell?_of_block (w := w) (h.block p.block (World.block_lt_of_cell? _ _ hc) hp)).trans hc
theorem But.blk {B g : Nat} {w w' : World} {t : TypeId} {cs : Array Value} (h : But B w w') (hg : Blk w g t cs) (hne : g ≠ B) : Blk w' g t cs := (h.block g hg.lt hne).trans hg
theorem Blk.apart {w : World} {g k : Nat} {t u : TypeId} {cs cu : Array Value} (h : Blk w g t cs) (h' : Blk w k u cu) (hn : t ≠ u) : g ≠ k := fun e => by
  subst e
  unfold Blk at h h'
  rw [h] at h'
  injection h' with h'
  injection h' with _ h2
  exact hn h2
theorem own_but {B : Nat} {w w' : World} {base : Nat} {e : TypeId} {sz n : Nat} {v : Value} {xs : List Value} {t : TypeId} {cs : Array Value} (h : w.ownsRow base e sz v n xs) (hb : But B w w') (hB : Blk w B t cs) (hn : e ≠ t) : w'.ownsRow base e sz v n xs := by
  refine ⟨h.1, ?_⟩
  rcases h.2 with hn' | ⟨g, cap, cur, rfl, hb', hg, rest⟩
  · exact .inl hn'
  · exact .inr ⟨g, cap, cur, rfl, hb', (hb.block g (Array.getElem?_eq_some_iff.1 hg).1 (Blk.apart hg hB hn)).trans hg, rest⟩

end Go.Proofs.YtpogngdddendiaaDoor
