/- Arguments that came in, as the walks want them: slices of strings read as lists of bytes. No condition. -/
import Derived.Test.YtpogngdddendiaaDoorBase
import Derived.ProofKit
import Derived.SliceStrings
import Derived.Carry
set_option linter.unusedVariables false
namespace Go.Proofs.YtpogngdddendiaaDoor
open Go.ChangeShapes Go.WideShapes Go.RowKit

theorem open_strs_rd {H : Type} {enc : TypeId × Value → H} {P : Program} {W : World} {t e : TypeId} {v : Value} {d : DataW H} {p : List MemPlace} (ht : P.underlying t = some (.slice e)) (he : P.underlying e = some .string) (hc : P.cellsOf e = 1)
    (hv : Value.okWide P W .any 0 t v) (h : DataW.Trod enc P W 0 (fun _ => true) true t v d p) :
    ∃ A c, ∃ L : List (List UInt8), v = .slice A L.length c ∧ RdL W 1 (fun s => [.string ⟨s.toArray⟩]) A L ∧ L.length ≤ c ∧ c ≤ maxLen ∧ (A = none → c = 0) ∧ (0 < c → ∀ ad, A = some ad → ad.spot = none) := by
  obtain ⟨a0, len, cap, rfl⟩ := okWide_slice ht hv
  obtain ⟨fuel, hf0⟩ := h
  have hf : DataW.trod enc P W 0 (fun _ => true) true fuel t [.slice a0 len cap] = some (d, p) := hf0
  rcases open_strings ht he hc hf with ⟨hcs, hx⟩ | ⟨a, len', cap', ss, hcs, _, hl, hm, hz, hx, hcell, _⟩
  · simp at hcs
    obtain ⟨rfl, rfl, rfl⟩ := hcs
    exact ⟨none, 0, [], rfl, RdL.nil _ _ _ _, Nat.le_refl _, by decide, fun _ => rfl, fun h => absurd h (Nat.lt_irrefl _)⟩
  · simp at hcs
    obtain ⟨rfl, rfl, rfl⟩ := hcs
    simp only [if_true] at hz
    obtain ⟨b, off, spot⟩ := a
    have hspot : 0 < cap → spot = none := fun h0 => by simpa [Addr.add] using World.cell?_spot (hcell 0 (by omega))
    refine ⟨some ⟨b, off, spot⟩, cap, (ss.take len).map (·.data.toList), by simp; omega, fun k hk => ?_, by simp; omega, hm, (fun h => by cases h), (fun h0 ad had => by cases had; exact hspot h0)⟩
    have hk' : k < ss.length := by simp at hk; omega
    have hs := hspot (by omega)
    subst hs
    refine ⟨b, off, rfl, by have h2 := World.block_lt_of_cell? _ _ (hcell k hk'); rw [Addr.add_lit] at h2; exact h2, fun j u hu => ?_⟩
    have hj : j = 0 := by
      have := (List.getElem?_eq_some_iff.1 hu).1
      simp at this
      exact this
    subst hj
    have h1 := hcell k hk'
    rw [Addr.add_lit] at h1
    rw [Nat.mul_one, Nat.add_zero, h1, ← hu]
    have hk2 : k < (ss.take len).length := by simpa using hk
    simp [List.getD, List.getElem?_eq_getElem hk', List.getElem_take]
end Go.Proofs.YtpogngdddendiaaDoor
