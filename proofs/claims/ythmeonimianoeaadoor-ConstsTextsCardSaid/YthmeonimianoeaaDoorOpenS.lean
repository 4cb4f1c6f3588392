/- Arguments that are slices of texts, and how long these may be. No condition. -/
import Derived.Test.YthmeonimianoeaaDoorProg
import Derived.Test.YthmeonimianoeaaDoorBase
import Derived.ProofKit
import Derived.Carry
import Derived.Deep.Slices
import Derived.SizedLaws
set_option linter.unusedVariables false
set_option linter.unusedSimpArgs false
namespace Go.Proofs.YthmeonimianoeaaDoor
open Go.ChangeShapes Go.WideShapes Go.RowKit Go.Deep

theorem cellsStrS : Tryd.prog.cellsOf 9 = 1 := by kernel_rfl
set_option maxRecDepth 100000 in
theorem open_strs_n {H : Type} {enc : TypeId × Value → H} {W : World} {v : Value} {d : DataW H} {p : List MemPlace}
    (hv : Value.okWide Tryd.prog W .any 0 48 v) (h : DataW.Trod enc Tryd.prog W 0 (fun _ => true) true 48 v d p) :
    ∃ A c, ∃ L : List (List UInt8), v = .slice A L.length c ∧ RdL W 1 (fun s => [.string ⟨s.toArray⟩]) A L ∧ L.length ≤ c ∧ c ≤ maxLen ∧ (A = none → c = 0) ∧ (0 < c → ∀ ad, A = some ad → ad.spot = none) ∧ ∀ y ∈ L, y.length ≤ maxLen := by
  obtain ⟨a0, len, cap, rfl⟩ := okWide_slice Tryd.underlying48 hv
  obtain ⟨fuel, hf0⟩ := h
  have hf : DataW.trod enc Tryd.prog W 0 (fun _ => true) true fuel 48 [.slice a0 len cap] = some (d, p) := hf0
  rcases open_slice Tryd.underlying48 hf with ⟨hcs, hx⟩ | ⟨a, len', cap', m, n, D, Pl, hcs, _, hl, hm, hmm, hx, hi⟩
  · simp at hcs
    obtain ⟨rfl, rfl, rfl⟩ := hcs
    exact ⟨none, 0, [], rfl, RdL.nil _ _ _ _, Nat.le_refl _, by decide, (fun _ => rfl), (fun h => absurd h (Nat.lt_irrefl _)), (fun y h => absurd h List.not_mem_nil)⟩
  · simp at hcs
    obtain ⟨rfl, rfl, rfl⟩ := hcs
    simp only [if_true] at hmm
    subst hmm
    have each : ∀ i, i < m → ∃ y : List UInt8, W.cells? 0 (a.add (i * 1)) 1 = some [.string ⟨y.toArray⟩] ∧ y.length ≤ maxLen := fun i him => by
      obtain ⟨cs', hc, ht⟩ := hi i him
      rw [cellsStrS] at hc
      obtain ⟨s, rfl, _, hs⟩ := DataW.trod_string Tryd.underlying9 ht
      exact ⟨s.data.toList, hc, by simpa using hs⟩
    obtain ⟨Y, hY⟩ := choose_lt each
    obtain ⟨b, off, spot⟩ := a
    have hspot : 0 < m → spot = none := fun h0 => by
      have h1 := (World.cells?_some (hY 0 h0).1).2.2 0 (by omega)
      have h2 : ([Value.string ⟨(Y 0).toArray⟩] : List Value)[0]? = some (.string ⟨(Y 0).toArray⟩) := rfl
      rw [h2] at h1
      have h3 := World.cell?_spot h1
      simpa [Addr.add] using h3
    have hget : ∀ k (hk : k < ((List.range len).map Y).length), ((List.range len).map Y)[k] = Y k := fun k hk => by simp
    refine ⟨some ⟨b, off, spot⟩, m, (List.range len).map Y, by simp, fun k hk => ?_, by simpa using hl, hm, (fun h => by cases h), (fun h0 ad had => by cases had; exact hspot h0), ?_⟩
    · rw [hget k hk]
      have hk' : k < m := by simp at hk; omega
      have hs := hspot (by omega)
      subst hs
      have h1 := (World.cells?_some (hY k hk').1).2.2
      have h0 := h1 0 (by omega)
      refine ⟨b, off, rfl, ?_, fun j u hu => ?_⟩
      · have h2 : ([Value.string ⟨(Y k).toArray⟩] : List Value)[0]? = some (.string ⟨(Y k).toArray⟩) := rfl
        rw [h2] at h0
        rw [Addr.add_lit, Addr.add_lit] at h0
        exact World.block_lt_of_cell? _ _ h0
      · have hj : j < 1 := (List.getElem?_eq_some_iff.1 hu).1
        have h4 := h1 j hj
        rw [hu, Addr.add_lit, Addr.add_lit] at h4
        exact h4
    · intro y hy
      obtain ⟨i, hi, rfl⟩ := List.mem_map.1 hy
      exact (hY i (by have := List.mem_range.1 hi; omega)).2
theorem weights_allS {H : Type} {P : Program} {e : TypeId} {d : DataW H} {n : Nat} : ∀ {l : List (DataW H)}, d ∈ l → n ∈ d.weights P e → n ∈ DataW.weightsAll P e l
  | x :: r, h, hn => by
    rw [DataW.weightsAll, List.mem_append]
    rcases List.mem_cons.1 h with h | h
    · subst h; exact .inl hn
    · exact .inr (weights_allS h hn)
set_option maxRecDepth 100000 in
theorem open_strs_w {H : Type} {enc : TypeId × Value → H} {W : World} {v : Value} {d : DataW H} {p : List MemPlace}
    (hv : Value.okWide Tryd.prog W .any 0 48 v) (h : DataW.Trod enc Tryd.prog W 0 (fun _ => true) true 48 v d p) :
    ∃ A c, ∃ L : List (List UInt8), v = .slice A L.length c ∧ RdL W 1 (fun s => [.string ⟨s.toArray⟩]) A L ∧ L.length ≤ c ∧ c ≤ maxLen ∧ (A = none → c = 0) ∧ (0 < c → ∀ ad, A = some ad → ad.spot = none) ∧ ∀ y ∈ L, y.length ∈ DataW.weights Tryd.prog 48 d := by
  obtain ⟨a0, len, cap, rfl⟩ := okWide_slice Tryd.underlying48 hv
  obtain ⟨fuel, hf0⟩ := h
  have hf : DataW.trod enc Tryd.prog W 0 (fun _ => true) true fuel 48 [.slice a0 len cap] = some (d, p) := hf0
  rcases open_slice Tryd.underlying48 hf with ⟨hcs, hx⟩ | ⟨a, len', cap', m, n, D, Pl, hcs, _, hl, hm, hmm, hx, hi⟩
  · simp at hcs
    obtain ⟨rfl, rfl, rfl⟩ := hcs
    exact ⟨none, 0, [], rfl, RdL.nil _ _ _ _, Nat.le_refl _, by decide, (fun _ => rfl), (fun h => absurd h (Nat.lt_irrefl _)), (fun y h => absurd h List.not_mem_nil)⟩
  · simp at hcs
    obtain ⟨rfl, rfl, rfl⟩ := hcs
    simp only [if_true] at hmm
    subst hmm
    have each : ∀ i, i < m → ∃ y : List UInt8, W.cells? 0 (a.add (i * 1)) 1 = some [.string ⟨y.toArray⟩] ∧ D i = .lit (.string y) := fun i him => by
      obtain ⟨cs', hc, ht⟩ := hi i him
      rw [cellsStrS] at hc
      obtain ⟨s, rfl, hs, _⟩ := DataW.trod_string Tryd.underlying9 ht
      exact ⟨s.data.toList, hc, congrArg Prod.fst hs⟩
    obtain ⟨Y, hY⟩ := choose_lt each
    obtain ⟨b, off, spot⟩ := a
    have hspot : 0 < m → spot = none := fun h0 => by
      have h1 := (World.cells?_some (hY 0 h0).1).2.2 0 (by omega)
      have h2 : ([Value.string ⟨(Y 0).toArray⟩] : List Value)[0]? = some (.string ⟨(Y 0).toArray⟩) := rfl
      rw [h2] at h1
      have h3 := World.cell?_spot h1
      simpa [Addr.add] using h3
    simp only [Prod.mk.injEq] at hx
    have hd : d = .slice ((List.range len).map D) ((List.range (m - len)).map fun j => D (len + j)) := hx.1
    have hget : ∀ k (hk : k < ((List.range len).map Y).length), ((List.range len).map Y)[k] = Y k := fun k hk => by simp
    refine ⟨some ⟨b, off, spot⟩, m, (List.range len).map Y, by simp, fun k hk => ?_, by simpa using hl, hm, (fun h => by cases h), (fun h0 ad had => by cases had; exact hspot h0), ?_⟩
    · rw [hget k hk]
      have hk' : k < m := by simp at hk; omega
      have hs := hspot (by omega)
      subst hs
      have h1 := (World.cells?_some (hY k hk').1).2.2
      have h0 := h1 0 (by omega)
      refine ⟨b, off, rfl, ?_, fun j u hu => ?_⟩
      · have h2 : ([Value.string ⟨(Y k).toArray⟩] : List Value)[0]? = some (.string ⟨(Y k).toArray⟩) := rfl
        rw [h2] at h0
        rw [Addr.add_lit, Addr.add_lit] at h0
        exact World.block_lt_of_cell? _ _ h0
      · have hj : j < 1 := (List.getElem?_eq_some_iff.1 hu).1
        have h4 := h1 j hj
        rw [hu, Addr.add_lit, Addr.add_lit] at h4
        exact h4
    · intro y hy
      obtain ⟨i, hi, rfl⟩ := List.mem_map.1 hy
      have hil := List.mem_range.1 hi
      have h2 : D i ∈ (List.range len).map D := List.mem_map.2 ⟨i, hi, rfl⟩
      rw [hd]
      simp only [DataW.weights, Tryd.underlying48, List.mem_cons, List.mem_append]
      refine .inr (.inl (weights_allS h2 ?_))
      rw [(hY i (by omega)).2]
      simp [DataW.weights]
end Go.Proofs.YthmeonimianoeaaDoor
