/- Arguments that are slices of ints, with their lengths. No condition. -/
import Derived.Test.YtpogngdddendiaaDoorOpenN
import Derived.Test.YtpogngdddendiaaDoorHD
set_option linter.unusedVariables false
set_option linter.unusedSimpArgs false
namespace Go.Proofs.YtpogngdddendiaaDoor
open Go.ChangeShapes Go.WideShapes Go.RowKit Go.Deep

set_option maxRecDepth 100000 in
theorem open_intq {H : Type} {enc : TypeId × Value → H} {W : World} {v : Value} {d : DataW H} {p : List MemPlace}
    (hv : Value.okWide Tryd.prog W .any 0 45 v) (h : DataW.Trod enc Tryd.prog W 0 (fun _ => true) true 45 v d p) :
    ∃ A c, ∃ L : List Int, v = .slice A L.length c ∧ RdL W 1 intc A L ∧ L.length ≤ c ∧ c ≤ maxLen ∧ (A = none → c = 0) ∧ (∀ y ∈ L, (Lit.int .i64 y).wf = true) ∧ L.length ≤ Rows.uptoBulk d := by
  obtain ⟨a0, len, cap, rfl⟩ := okWide_slice Tryd.underlying45 hv
  obtain ⟨fuel, hf0⟩ := h
  have hf : DataW.trod enc Tryd.prog W 0 (fun _ => true) true fuel 45 [.slice a0 len cap] = some (d, p) := hf0
  rcases open_slice Tryd.underlying45 hf with ⟨hcs, hx⟩ | ⟨a, len', cap', m, n, D, Pl, hcs, _, hl, hm, hmm, hx, hi⟩
  · simp at hcs
    obtain ⟨rfl, rfl, rfl⟩ := hcs
    exact ⟨none, 0, [], rfl, RdL.nil _ _ _ _, Nat.le_refl _, by decide, (fun _ => rfl), (fun y h => absurd h List.not_mem_nil), Nat.zero_le _⟩
  · simp at hcs
    obtain ⟨rfl, rfl, rfl⟩ := hcs
    simp only [if_true] at hmm
    subst hmm
    have each : ∀ i, i < m → ∃ y : Int, W.cell? (a.add i) = some (.int .i64 y) ∧ (Lit.int .i64 y).wf = true := fun i him => by
      obtain ⟨cs', hc, ht⟩ := hi i him
      rw [cellsInt, Nat.mul_one] at hc
      obtain ⟨y, rfl, _, hw⟩ := DataW.trod_int Tryd.underlying3 ht
      exact ⟨y, cell_of_cells?_one hc, hw⟩
    obtain ⟨Y, hY⟩ := choose_lt each
    obtain ⟨b, off, spot⟩ := a
    have hget : ∀ k (hk : k < ((List.range len).map Y).length), ((List.range len).map Y)[k] = Y k := fun k hk => by simp
    refine ⟨some ⟨b, off, spot⟩, m, (List.range len).map Y, by simp, fun k hk => ?_, by simpa using hl, hm, (fun h => by cases h), ?_, ?_⟩
    · rw [hget k hk]
      have hk' : k < m := by simp at hk; omega
      have hs : spot = none := by simpa [Addr.add] using World.cell?_spot (hY 0 (by omega)).1
      subst hs
      have h1 := (hY k hk').1
      rw [Addr.add_lit] at h1
      refine ⟨b, off, rfl, World.block_lt_of_cell? _ _ h1, fun j u hu => ?_⟩
      have hj : j = 0 := by
        have := (List.getElem?_eq_some_iff.1 hu).1
        simp [intc] at this
        exact this
      subst hj
      rw [Nat.mul_one, Nat.add_zero, h1]
      simpa [intc] using hu
    · intro y hy
      obtain ⟨i, hi, rfl⟩ := List.mem_map.1 hy
      have hi' : i < len := by simpa using hi
      exact (hY i (by omega)).2
    · simp only [Prod.mk.injEq] at hx
      have hd : d = .slice ((List.range len).map D) ((List.range (m - len)).map fun j => D (len + j)) := hx.1
      rw [hd]
      simp only [Rows.uptoBulk]
      have := bulk_len ((List.range len).map D)
      simp only [List.length_map, List.length_range] at this ⊢
      omega
end Go.Proofs.YtpogngdddendiaaDoor
