/- Arguments that are slices of texts, and how long these may be. No condition. -/
import Derived.Test.YtlhpflilpdceiaaGreatDoorProg
import Derived.Test.YtlhpflilpdceiaaGreatDoorBase
import Derived.ProofKit
import Derived.Carry
import Derived.Deep.Slices
import Derived.SizedLaws
import Derived.Test.YtlhpflilpdceiaaGreatDoorListW3
import Derived.SliceStrings
set_option linter.unusedVariables false
set_option linter.unusedSimpArgs false
namespace Go.Proofs.YtlhpflilpdceiaaGreatDoor
open Go.ChangeShapes Go.WideShapes Go.RowKit Go.Deep

theorem cellsStrS : Tryz.prog.cellsOf 9 = 1 := by kernel_rfl
set_option maxRecDepth 100000 in
theorem open_strs_n {H : Type} {enc : TypeId × Value → H} {W : World} {v : Value} {d : DataW H} {p : List MemPlace}
    (hv : Value.okWide Tryz.prog W .any 0 23 v) (h : DataW.Trod enc Tryz.prog W 0 (fun _ => true) true 23 v d p) :
    ∃ A c, ∃ L : List (List UInt8), v = .slice A L.length c ∧ RdL W 1 (fun s => [.string ⟨s.toArray⟩]) A L ∧ L.length ≤ c ∧ c ≤ maxLen ∧ (A = none → c = 0) ∧ (0 < c → ∀ ad, A = some ad → ad.spot = none) ∧ ∀ y ∈ L, y.length ≤ maxLen := by
  obtain ⟨a0, len, cap, rfl⟩ := okWide_slice Tryz.underlying23 hv
  obtain ⟨fuel, hf0⟩ := h
  have hf : DataW.trod enc Tryz.prog W 0 (fun _ => true) true fuel 23 [.slice a0 len cap] = some (d, p) := hf0
  rcases open_slice Tryz.underlying23 hf with ⟨hcs, hx⟩ | ⟨a, len', cap', m, n, D, Pl, hcs, _, hl, hm, hmm, hx, hi⟩
  · simp at hcs
    obtain ⟨rfl, rfl, rfl⟩ := hcs
    exact ⟨none, 0, [], rfl, RdL.nil _ _ _ _, Nat.le_refl _, by decide, (fun _ => rfl), (fun h => absurd h (Nat.lt_irrefl _)), (fun y h => absurd h List.not_mem_nil)⟩
  · simp at hcs
    obtain ⟨rfl, rfl, rfl⟩ := hcs
    simp only [if_true] at hmm
    subst hmm
    have each : ∀ i, i < m → ∃ y : List UInt8, W.cells? 0 (a.add (i * 1)) 1 = some [.string ⟨y.toArray⟩] ∧ y.length ≤ maxLen := fun i him => by
      obtain ⟨cs', hc, ht⟩ := hi i him
      rw [cellsStrS] at hc
      obtain ⟨s, rfl, _, hs⟩ := DataW.trod_string Tryz.underlying9 ht
      exact ⟨s.data.toList, hc, by simpa using hs⟩
    obtain ⟨Y, hY⟩ := choose_lt each
    obtain ⟨b, off, spot⟩ := a
    have hspot : 0 < m → spot = none := fun h0 => by
      have h1 := (World.cells?_some (hY 0 h0).1).2.2 0 (by omega)
      have h2 : ([Value.string ⟨(Y 0).toArray⟩] : List Value)[0]? = some (.string ⟨(Y 0).toArray⟩) := rfl
      rw [h2] at h1
      have h3 := World.cell?_spot h1
      simpa [Addr.add] using h3
    have hget : ∀ k (hk : k < ((List.range len).map Y).length), ((List.range len).map Y)[k] = Y k := fun k hk => by simp
    refine ⟨some ⟨b, off, spot⟩, m, (List.range len).map Y, by simp, fun k hk => ?_, by simpa using hl, hm, (fun h => by cases h), (fun h0 ad had => by cases had; exact hspot h0), ?_⟩
    · rw [hget k hk]
      have hk' : k < m := by simp at hk; omega
      have hs := hspot (by omega)
      subst hs
      have h1 := (World.cells?_some (hY k hk').1).2.2
      have h0 := h1 0 (by omega)
      refine ⟨b, off, rfl, ?_, fun j u hu => ?_⟩
      · have h2 : ([Value.string ⟨(Y k).toArray⟩] : List Value)[0]? = some (.string ⟨(Y k).toArray⟩) := rfl
        rw [h2] at h0
        rw [Addr.add_lit, Addr.add_lit] at h0
        exact World.block_lt_of_cell? _ _ h0
      · have hj : j < 1 := (List.getElem?_eq_some_iff.1 hu).1
        have h4 := h1 j hj
        rw [hu, Addr.add_lit, Addr.add_lit] at h4
        exact h4
    · intro y hy
      obtain ⟨i, hi, rfl⟩ := List.mem_map.1 hy
      exact (hY i (by have := List.mem_range.1 hi; omega)).2
theorem weights_allS {H : Type} {P : Program} {e : TypeId} {d : DataW H} {n : Nat} : ∀ {l : List (DataW H)}, d ∈ l → n ∈ d.weights P e → n ∈ DataW.weightsAll P e l
  | x :: r, h, hn => by
    rw [DataW.weightsAll, List.mem_append]
    rcases List.mem_cons.1 h with h | h
    · subst h; exact .inl hn
    · exact .inr (weights_allS h hn)
set_option maxRecDepth 100000 in
theorem open_strs_w {H : Type} {enc : TypeId × Value → H} {W : World} {v : Value} {d : DataW H} {p : List MemPlace}
    (hv : Value.okWide Tryz.prog W .any 0 23 v) (h : DataW.Trod enc Tryz.prog W 0 (fun _ => true) true 23 v d p) :
    ∃ A c, ∃ L : List (List UInt8), v = .slice A L.length c ∧ RdL W 1 (fun s => [.string ⟨s.toArray⟩]) A L ∧ L.length ≤ c ∧ c ≤ maxLen ∧ (A = none → c = 0) ∧ (0 < c → ∀ ad, A = some ad → ad.spot = none) ∧ ∀ y ∈ L, y.length ∈ DataW.weights Tryz.prog 23 d := by
  obtain ⟨a0, len, cap, rfl⟩ := okWide_slice Tryz.underlying23 hv
  obtain ⟨fuel, hf0⟩ := h
  have hf : DataW.trod enc Tryz.prog W 0 (fun _ => true) true fuel 23 [.slice a0 len cap] = some (d, p) := hf0
  rcases open_slice Tryz.underlying23 hf with ⟨hcs, hx⟩ | ⟨a, len', cap', m, n, D, Pl, hcs, _, hl, hm, hmm, hx, hi⟩
  · simp at hcs
    obtain ⟨rfl, rfl, rfl⟩ := hcs
    exact ⟨none, 0, [], rfl, RdL.nil _ _ _ _, Nat.le_refl _, by decide, (fun _ => rfl), (fun h => absurd h (Nat.lt_irrefl _)), (fun y h => absurd h List.not_mem_nil)⟩
  · simp at hcs
    obtain ⟨rfl, rfl, rfl⟩ := hcs
    simp only [if_true] at hmm
    subst hmm
    have each : ∀ i, i < m → ∃ y : List UInt8, W.cells? 0 (a.add (i * 1)) 1 = some [.string ⟨y.toArray⟩] ∧ D i = .lit (.string y) := fun i him => by
      obtain ⟨cs', hc, ht⟩ := hi i him
      rw [cellsStrS] at hc
      obtain ⟨s, rfl, hs, _⟩ := DataW.trod_string Tryz.underlying9 ht
      exact ⟨s.data.toList, hc, congrArg Prod.fst hs⟩
    obtain ⟨Y, hY⟩ := choose_lt each
    obtain ⟨b, off, spot⟩ := a
    have hspot : 0 < m → spot = none := fun h0 => by
      have h1 := (World.cells?_some (hY 0 h0).1).2.2 0 (by omega)
      have h2 : ([Value.string ⟨(Y 0).toArray⟩] : List Value)[0]? = some (.string ⟨(Y 0).toArray⟩) := rfl
      rw [h2] at h1
      have h3 := World.cell?_spot h1
      simpa [Addr.add] using h3
    simp only [Prod.mk.injEq] at hx
    have hd : d = .slice ((List.range len).map D) ((List.range (m - len)).map fun j => D (len + j)) := hx.1
    have hget : ∀ k (hk : k < ((List.range len).map Y).length), ((List.range len).map Y)[k] = Y k := fun k hk => by simp
    refine ⟨some ⟨b, off, spot⟩, m, (List.range len).map Y, by simp, fun k hk => ?_, by simpa using hl, hm, (fun h => by cases h), (fun h0 ad had => by cases had; exact hspot h0), ?_⟩
    · rw [hget k hk]
      have hk' : k < m := by simp at hk; omega
      have hs := hspot (by omega)
      subst hs
      have h1 := (World.cells?_some (hY k hk').1).2.2
      have h0 := h1 0 (by omega)
      refine ⟨b, off, rfl, ?_, fun j u hu => ?_⟩
      · have h2 : ([Value.string ⟨(Y k).toArray⟩] : List Value)[0]? = some (.string ⟨(Y k).toArray⟩) := rfl
        rw [h2] at h0
        rw [Addr.add_lit, Addr.add_lit] at h0
        exact World.block_lt_of_cell? _ _ h0
      · have hj : j < 1 := (List.getElem?_eq_some_iff.1 hu).1
        have h4 := h1 j hj
        rw [hu, Addr.add_lit, Addr.add_lit] at h4
        exact h4
    · intro y hy
      obtain ⟨i, hi, rfl⟩ := List.mem_map.1 hy
      have hil := List.mem_range.1 hi
      have h2 : D i ∈ (List.range len).map D := List.mem_map.2 ⟨i, hi, rfl⟩
      rw [hd]
      simp only [DataW.weights, Tryz.underlying23, List.mem_cons, List.mem_append]
      refine .inr (.inl (weights_allS h2 ?_))
      rw [(hY i (by omega)).2]
      simp [DataW.weights]
end Go.Proofs.YtlhpflilpdceiaaGreatDoor

/- Arguments that are slices of slices of texts, and what the form's reach says of these. No condition. -/
set_option linter.unusedVariables false
set_option linter.unusedSimpArgs false
namespace Go.Proofs.YtlhpflilpdceiaaGreatDoor
open Go.ChangeShapes Go.WideShapes Go.RowKit Go.Deep

set_option maxRecDepth 100000 in
theorem open_strs_raw {H : Type} {enc : TypeId × Value → H} {W : World} {fuel : Nat} {cs : List Value} {d : DataW H} {p : List MemPlace}
    (hf : DataW.trod enc Tryz.prog W 0 (fun _ => true) true fuel 23 cs = some (d, p)) :
    ∃ A c, ∃ L : List (List UInt8), cs = [.slice A L.length c] ∧ RdL W 1 strc A L ∧ L.length ≤ c ∧ c ≤ maxLen ∧ (A = none → c = 0) ∧
      ∀ y ∈ L, y.length ∈ DataW.weights Tryz.prog 23 d := by
  rcases open_slice Tryz.underlying23 hf with ⟨hcs, hx⟩ | ⟨a, len, cap, m, n, D, Pl, hcs, _, hl, hm, hmm, hx, hi⟩
  · subst hcs
    exact ⟨none, 0, [], rfl, RdL.nil _ _ _ _, Nat.le_refl _, by decide, (fun _ => rfl), (fun y h => absurd h List.not_mem_nil)⟩
  · subst hcs
    simp only [if_true] at hmm
    subst hmm
    have each : ∀ i, i < m → ∃ y : List UInt8, W.cells? 0 (a.add (i * 1)) 1 = some [.string ⟨y.toArray⟩] ∧ D i = .lit (.string y) := fun i him => by
      obtain ⟨cs', hc, ht⟩ := hi i him
      rw [cellsStrS] at hc
      obtain ⟨s, rfl, hs, _⟩ := DataW.trod_string Tryz.underlying9 ht
      exact ⟨s.data.toList, hc, congrArg Prod.fst hs⟩
    obtain ⟨Y, hY⟩ := choose_lt each
    obtain ⟨b, off, spot⟩ := a
    have hspot : 0 < m → spot = none := fun h0 => by
      have h1 := (World.cells?_some (hY 0 h0).1).2.2 0 (by omega)
      have h2 : ([Value.string ⟨(Y 0).toArray⟩] : List Value)[0]? = some (.string ⟨(Y 0).toArray⟩) := rfl
      rw [h2] at h1
      have h3 := World.cell?_spot h1
      simpa [Addr.add] using h3
    simp only [Prod.mk.injEq] at hx
    have hd : d = .slice ((List.range len).map D) ((List.range (m - len)).map fun j => D (len + j)) := hx.1
    have hget : ∀ k (hk : k < ((List.range len).map Y).length), ((List.range len).map Y)[k] = Y k := fun k hk => by simp
    refine ⟨some ⟨b, off, spot⟩, m, (List.range len).map Y, by simp, fun k hk => ?_, by simpa using hl, hm, (fun h => by cases h), ?_⟩
    · rw [hget k hk]
      have hk' : k < m := by simp at hk; omega
      have hs := hspot (by omega)
      subst hs
      have h1 := (World.cells?_some (hY k hk').1).2.2
      have h0 := h1 0 (by omega)
      refine ⟨b, off, rfl, ?_, fun j u hu => ?_⟩
      · have h2 : ([Value.string ⟨(Y k).toArray⟩] : List Value)[0]? = some (.string ⟨(Y k).toArray⟩) := rfl
        rw [h2] at h0
        rw [Addr.add_lit, Addr.add_lit] at h0
        exact World.block_lt_of_cell? _ _ h0
      · have hj : j < 1 := (List.getElem?_eq_some_iff.1 hu).1
        have h4 := h1 j hj
        have hu2 : ([Value.string ⟨(Y k).toArray⟩] : List Value)[j]? = some u := hu
        rw [hu2, Addr.add_lit, Addr.add_lit] at h4
        exact h4
    · intro y hy
      obtain ⟨i, hi, rfl⟩ := List.mem_map.1 hy
      have hil := List.mem_range.1 hi
      have h2 : D i ∈ (List.range len).map D := List.mem_map.2 ⟨i, hi, rfl⟩
      rw [hd]
      simp only [DataW.weights, Tryz.underlying23, List.mem_cons, List.mem_append]
      refine .inr (.inl (weights_allS h2 ?_))
      rw [(hY i (by omega)).2]
      simp [DataW.weights]

theorem cellsStrs : Tryz.prog.cellsOf 23 = 1 := by kernel_rfl
set_option maxRecDepth 100000 in
theorem open_strss {H : Type} {enc : TypeId × Value → H} {W : World} {v : Value} {d : DataW H} {p : List MemPlace}
    (hv : Value.okWide Tryz.prog W .any 0 22 v) (h : DataW.Trod enc Tryz.prog W 0 (fun _ => true) true 22 v d p) :
    ∃ A c, ∃ ls : List (List (List UInt8)), v = .slice A ls.length c ∧ KdS W A ls ∧ ls.length ≤ c ∧ c ≤ maxLen ∧ (A = none → c = 0) ∧ 
      ∀ l ∈ ls, ∀ y ∈ l, y.length ∈ DataW.weights Tryz.prog 22 d := by
  obtain ⟨a0, len, cap, rfl⟩ := okWide_slice Tryz.underlying22 hv
  obtain ⟨fuel, hf0⟩ := h
  have hf : DataW.trod enc Tryz.prog W 0 (fun _ => true) true fuel 22 [.slice a0 len cap] = some (d, p) := hf0
  rcases open_slice Tryz.underlying22 hf with ⟨hcs, hx⟩ | ⟨a, len', cap', m, n, D, Pl, hcs, _, hl, hm, hmm, hx, hi⟩
  · simp at hcs
    obtain ⟨rfl, rfl, rfl⟩ := hcs
    exact ⟨none, 0, [], rfl, ⟨[], RdL.nil _ _ _ _, AllS.nil _⟩, Nat.le_refl _, by decide, (fun _ => rfl), (fun y h => absurd h List.not_mem_nil)⟩
  · simp at hcs
    obtain ⟨rfl, rfl, rfl⟩ := hcs
    simp only [if_true] at hmm
    subst hmm
    have each : ∀ i, i < m → ∃ y : Option Addr × Nat × List (List UInt8), W.cell? (a.add i) = some (.slice y.1 y.2.2.length y.2.1) ∧ SlS W (.slice y.1 y.2.2.length y.2.1) y.2.2 ∧ ∀ u ∈ y.2.2, u.length ∈ DataW.weights Tryz.prog 23 (D i) := fun i him => by
      obtain ⟨cs', hc, ht⟩ := hi i him
      rw [cellsStrs, Nat.mul_one] at hc
      obtain ⟨A1, c1, L1, rfl, g1, g2, g3, g4, g7⟩ := open_strs_raw ht
      exact ⟨(A1, c1, L1), cell_of_cells?_one hc, ⟨A1, c1, rfl, g1, g4, g2, g3⟩, g7⟩
    obtain ⟨Y, hY⟩ := choose_lt each
    obtain ⟨b, off, spot⟩ := a
    have hget : ∀ k (hk : k < ((List.range len).map fun i => (Y i).2.2).length), ((List.range len).map fun i => (Y i).2.2)[k] = (Y k).2.2 := fun k hk => by simp
    simp only [Prod.mk.injEq] at hx
    have hd : d = .slice ((List.range len).map D) ((List.range (m - len)).map fun j => D (len + j)) := hx.1
    have hmem : ∀ l ∈ (List.range len).map (fun i => (Y i).2.2), ∃ i, i < len ∧ l = (Y i).2.2 := fun y hy => by
      obtain ⟨i, hi, rfl⟩ := List.mem_map.1 hy
      exact ⟨i, by simpa using hi, rfl⟩
    refine ⟨some ⟨b, off, spot⟩, m, (List.range len).map fun i => (Y i).2.2, by simp, ?_, by simpa using hl, hm, (fun h => by cases h), ?_⟩
    · refine ⟨(List.range len).map fun i => .slice (Y i).1 (Y i).2.2.length (Y i).2.1, fun k hk => ?_, by simp, fun i hi v hv => ?_⟩
      · have hk' : k < m := by simp at hk; omega
        have hs : spot = none := by simpa [Addr.add] using World.cell?_spot (hY 0 (by omega)).1
        subst hs
        have h1 := (hY k hk').1
        rw [Addr.add_lit] at h1
        refine ⟨b, off, rfl, World.block_lt_of_cell? _ _ h1, fun j u hu => ?_⟩
        have hj : j = 0 := by
          have := (List.getElem?_eq_some_iff.1 hu).1
          simp [ones] at this
          exact this
        subst hj
        rw [Nat.mul_one, Nat.add_zero, h1]
        simpa [ones] using hu
      · have hi' : i < len := by simpa using hi
        rw [hget i hi]
        rw [List.getElem?_map, List.getElem?_range hi'] at hv
        simp only [Option.map_some, Option.some.injEq] at hv
        rw [← hv]
        exact (hY i (by omega)).2.1
    · intro l hl2 y hy
      obtain ⟨i, hi, rfl⟩ := hmem l hl2
      have h2 : D i ∈ (List.range len).map D := List.mem_map.2 ⟨i, List.mem_range.2 hi, rfl⟩
      have h3 := (hY i (by omega)).2.2 y hy
      rw [hd]
      simp only [DataW.weights, Tryz.underlying22, List.mem_cons, List.mem_append]
      exact .inr (.inl (weights_allS h2 h3))
end Go.Proofs.YtlhpflilpdceiaaGreatDoor

/- Arguments that came in, as the walks want them: slices of strings read as lists of bytes. No condition. -/
set_option linter.unusedVariables false
namespace Go.Proofs.YtlhpflilpdceiaaGreatDoor
open Go.ChangeShapes Go.WideShapes Go.RowKit

theorem open_strs_rd {H : Type} {enc : TypeId × Value → H} {P : Program} {W : World} {t e : TypeId} {v : Value} {d : DataW H} {p : List MemPlace} (ht : P.underlying t = some (.slice e)) (he : P.underlying e = some .string) (hc : P.cellsOf e = 1)
    (hv : Value.okWide P W .any 0 t v) (h : DataW.Trod enc P W 0 (fun _ => true) true t v d p) :
    ∃ A c, ∃ L : List (List UInt8), v = .slice A L.length c ∧ RdL W 1 (fun s => [.string ⟨s.toArray⟩]) A L ∧ L.length ≤ c ∧ c ≤ maxLen ∧ (A = none → c = 0) ∧ (0 < c → ∀ ad, A = some ad → ad.spot = none) := by
  obtain ⟨a0, len, cap, rfl⟩ := okWide_slice ht hv
  obtain ⟨fuel, hf0⟩ := h
  have hf : DataW.trod enc P W 0 (fun _ => true) true fuel t [.slice a0 len cap] = some (d, p) := hf0
  rcases open_strings ht he hc hf with ⟨hcs, hx⟩ | ⟨a, len', cap', ss, hcs, _, hl, hm, hz, hx, hcell, _⟩
  · simp at hcs
    obtain ⟨rfl, rfl, rfl⟩ := hcs
    exact ⟨none, 0, [], rfl, RdL.nil _ _ _ _, Nat.le_refl _, by decide, fun _ => rfl, fun h => absurd h (Nat.lt_irrefl _)⟩
  · simp at hcs
    obtain ⟨rfl, rfl, rfl⟩ := hcs
    simp only [if_true] at hz
    obtain ⟨b, off, spot⟩ := a
    have hspot : 0 < cap → spot = none := fun h0 => by simpa [Addr.add] using World.cell?_spot (hcell 0 (by omega))
    refine ⟨some ⟨b, off, spot⟩, cap, (ss.take len).map (·.data.toList), by simp; omega, fun k hk => ?_, by simp; omega, hm, (fun h => by cases h), (fun h0 ad had => by cases had; exact hspot h0)⟩
    have hk' : k < ss.length := by simp at hk; omega
    have hs := hspot (by omega)
    subst hs
    refine ⟨b, off, rfl, by have h2 := World.block_lt_of_cell? _ _ (hcell k hk'); rw [Addr.add_lit] at h2; exact h2, fun j u hu => ?_⟩
    have hj : j = 0 := by
      have := (List.getElem?_eq_some_iff.1 hu).1
      simp at this
      exact this
    subst hj
    have h1 := hcell k hk'
    rw [Addr.add_lit] at h1
    rw [Nat.mul_one, Nat.add_zero, h1, ← hu]
    have hk2 : k < (ss.take len).length := by simpa using hk
    simp [List.getD, List.getElem?_eq_getElem hk', List.getElem_take]
end Go.Proofs.YtlhpflilpdceiaaGreatDoor
