/- Maps whose elements are read as they are: laws at the operations. No condition. -/
import Derived.Test.YtcnkljbckpkgcaaBase
import Derived.Maps.OwnSet
set_option linter.unusedVariables false
set_option linter.unusedSimpArgs false
namespace Go.Proofs.Ytcnkljbckpkgcaa
open Go.RowKit Go.Maps

/-- An element as it is. -/
def hR (v : Value) : Option (DataW Value × List MemPlace) := some (.held v, [])
section
variable {P : Program} {w : World} {k e t : TypeId} {b n : Nat} {D : DataW Value}
theorem look_held (h : w.ownsMap P k hR b n D) (K : Keyed P k) (ht : P.underlying t = some (.map k e)) {z : Value} (hz : (zeroValue e).run P w = .ok z w) {key : Value} {kl : Lit} (hkey : keyOf P k key = some kl) {f : Value} (h2 : D.atKey kl (.held z) = .held f) :
    (Instr.lookup t (.map (some b)) key true).run P w = .ok (.tuple #[f, .bool (Maps.has D kl)]) w := by
  obtain ⟨v, ps, hrun, hv⟩ := h.look_ok K ht hz (zd := .held z) (zp := []) rfl hkey
  have : v = f ∧ ps = [] := by
    rw [h2] at hv
    simpa [hR] using hv
  obtain ⟨rfl, -⟩ := this
  exact hrun
theorem look_held1 (h : w.ownsMap P k hR b n D) (K : Keyed P k) (ht : P.underlying t = some (.map k e)) {z : Value} (hz : (zeroValue e).run P w = .ok z w) {key : Value} {kl : Lit} (hkey : keyOf P k key = some kl) {f : Value} (h2 : D.atKey kl (.held z) = .held f) :
    (Instr.lookup t (.map (some b)) key false).run P w = .ok f w := by
  obtain ⟨v, ps, hrun, hv⟩ := h.lookup K ht hz (zd := .held z) (zp := []) rfl hkey
  have : v = f ∧ ps = [] := by
    rw [h2] at hv
    simpa [hR] using hv
  obtain ⟨rfl, -⟩ := this
  exact hrun
/-- An entry of a map that is written out. -/
theorem wpList_insert_held {ops : Array Oper} {rest : List Oper} {o : Oper} {a : Act} {Q : Exit → Act → World → Prop} (hg : o.guard = none) (m x v : Operand) (t : TypeId) (hop : o.op = Op.insert t m x v) (K : Keyed P k) (ht : P.underlying t = some (.map k e))
    (hm : a.eval m = .map (some b)) (hown : w.ownsMap P k hR b n D) (hn : n < maxLen) {key val : Value} {kl : Lit} (hx : a.eval x = key) (hv : a.eval v = val) (hkey : keyOf P k key = some kl)
    (hK : ∀ w', w'.ownsMap P k hR b (n + 1) (D.put kl (.held val)) → w.grownBy w' (some b) → wpList P ops Q rest (a.put o.dst undef) w') :
    wpList P ops Q (o :: rest) a w := by
  refine wpList_plain hg fun K' hK' => ?_
  obtain ⟨w', hrun, r1, r2⟩ := hown.update K ht hn hkey (val := val) (d := .held val) (ps := []) rfl
  unfold Oper.wp
  simp [execOp, hop, hm, hx, hv, hrun, Result.andThen]
  exact hK' _ _ (hK w' r1 r2)
theorem ownsMap_below {w' : World} (h : w.ownsMap P k hR b n D) (hb : Below w.heap.size w w') : w'.ownsMap P k hR b n D := by
  obtain ⟨es, clock, h1, h2⟩ := h
  exact ⟨es, clock, (hb.block b (Array.getElem?_eq_some_iff.1 h1).1).trans h1, h2⟩
end
end Go.Proofs.Ytcnkljbckpkgcaa
