/- Arguments that are slices of texts, and of variables. No condition. -/
import Derived.Test.YtcnkljbckpkgcaaOpenS
import Derived.Test.YtcnkljbckpkgcaaStoW3
set_option linter.unusedVariables false
set_option linter.unusedSimpArgs false
namespace Go.Proofs.Ytcnkljbckpkgcaa
open Go.ChangeShapes Go.WideShapes Go.RowKit Go.Deep

set_option maxRecDepth 100000 in
theorem open_txs_raw {H : Type} {enc : TypeId × Value → H} {W : World} {fuel : Nat} {cs : List Value} {x : DataW H × List MemPlace}
    (hf : DataW.trod enc Try.prog W 0 (fun _ => true) true fuel 29 cs = some x) : ∃ v, ∃ L : List (List UInt8), cs = [v] ∧ TxR W v L := by
  obtain ⟨d, p⟩ := x
  rcases open_slice Try.underlying29 hf with ⟨hcs, hx⟩ | ⟨a, len, cap, m, n, D, Pl, hcs, _, hl, hm, hmm, hx, hi⟩
  · subst hcs
    exact ⟨_, [], rfl, none, 0, rfl, RdL.nil _ _ _ _, (fun _ => rfl), Nat.le_refl _, Nat.zero_le _⟩
  · subst hcs
    simp only [if_true] at hmm
    subst hmm
    have each : ∀ i, i < m → ∃ y : List UInt8, W.cells? 0 (a.add (i * 1)) 1 = some [.string ⟨y.toArray⟩] := fun i him => by
      obtain ⟨cs', hc, ht⟩ := hi i him
      rw [cellsStrS] at hc
      obtain ⟨s, rfl, hs, _⟩ := DataW.trod_string Try.underlying9 ht
      exact ⟨s.data.toList, hc⟩
    obtain ⟨Y, hY⟩ := choose_lt each
    obtain ⟨b, off, spot⟩ := a
    have hspot : 0 < m → spot = none := fun h0 => by
      have h1 := (World.cells?_some (hY 0 h0)).2.2 0 (by omega)
      have h2 : ([Value.string ⟨(Y 0).toArray⟩] : List Value)[0]? = some (.string ⟨(Y 0).toArray⟩) := rfl
      rw [h2] at h1
      have h3 := World.cell?_spot h1
      simpa [Addr.add] using h3
    have hget : ∀ k (hk : k < ((List.range len).map Y).length), ((List.range len).map Y)[k] = Y k := fun k hk => by simp
    refine ⟨_, (List.range len).map Y, rfl, some ⟨b, off, spot⟩, m, by simp, fun k hk => ?_, (fun h => by cases h), by simpa using hl, hm⟩
    rw [hget k hk]
    have hk' : k < m := by simp at hk; omega
    have hs := hspot (by omega)
    subst hs
    have h1 := (World.cells?_some (hY k hk')).2.2
    have h0 := h1 0 (by omega)
    refine ⟨b, off, rfl, ?_, fun j u hu => ?_⟩
    · have h2 : ([Value.string ⟨(Y k).toArray⟩] : List Value)[0]? = some (.string ⟨(Y k).toArray⟩) := rfl
      rw [h2] at h0
      rw [Addr.add_lit, Addr.add_lit] at h0
      exact World.block_lt_of_cell? _ _ h0
    · have hj : j < 1 := (List.getElem?_eq_some_iff.1 hu).1
      have h4 := h1 j hj
      have hu2 : ([Value.string ⟨(Y k).toArray⟩] : List Value)[j]? = some u := hu
      rw [hu2, Addr.add_lit, Addr.add_lit] at h4
      exact h4
theorem cellsVal : Try.prog.cellsOf 34 = 2 := by kernel_rfl
theorem cellsStrsV : Try.prog.cellsOf 29 = 1 := by kernel_rfl
theorem list2 {α : Type} : ∀ {l : List α}, l.length = 2 → ∃ v0 v1, l = [v0, v1]
  | [v0, v1], _ => ⟨v0, v1, rfl⟩
set_option maxRecDepth 100000 in
theorem open_val {H : Type} {enc : TypeId × Value → H} {W : World} {fuel : Nat} {cs : List Value} {x : DataW H × List MemPlace}
    (h : DataW.trod enc Try.prog W 0 (fun _ => true) true fuel 34 cs = some x) :
    ∃ y : (Txt × Value) × List Txt, cs = valc y.1 ∧ y.1.1.length ≤ maxLen ∧ TxR W y.1.2 y.2 := by
  obtain ⟨ys, m, _, hx, hlen, hyl, hf⟩ := DataW.trod_struct Try.underlying34 h
  rw [cellsVal] at hlen
  obtain ⟨v0, v1, rfl⟩ : ∃ v0 v1, cs = [v0, v1] := list2 hlen
  obtain ⟨y0, y1, rfl⟩ : ∃ v0 v1, ys = [v0, v1] := list2 hyl
  have h0 := hf 0 _ rfl
  have h1 := hf 1 _ rfl
  simp only [cellsStrsV, cellsStrS, List.drop_zero, List.drop_succ_cons, List.take_succ_cons, List.take_zero, List.getElem?_cons_zero, List.getElem?_cons_succ] at h0 h1
  obtain ⟨s4, e4, f4, w4⟩ := DataW.trod_string Try.underlying9 h0
  obtain ⟨v, L, e5, f5⟩ := open_txs_raw h1
  obtain rfl := (List.cons.inj e4).1
  obtain rfl := (List.cons.inj e5).1
  exact ⟨((s4.data.toList, v1), L), rfl, by simpa using w4, f5⟩
instance : Inhabited ((Txt × Value) × List Txt) := ⟨(([], .slice none 0 0), [])⟩
set_option maxRecDepth 100000 in
theorem open_vals {H : Type} {enc : TypeId × Value → H} {W : World} {v : Value} {d : DataW H} {p : List MemPlace}
    (hv : Value.okWide Try.prog W .any 0 22 v) (h : DataW.Trod enc Try.prog W 0 (fun _ => true) true 22 v d p) :
    ∃ A c, ∃ M : List (Txt × List Txt), v = .slice A M.length c ∧ ValR W v M ∧ ∀ y ∈ M, y.1.length ≤ maxLen := by
  obtain ⟨a0, len, cap, rfl⟩ := okWide_slice Try.underlying22 hv
  obtain ⟨fuel, hf0⟩ := h
  have hf : DataW.trod enc Try.prog W 0 (fun _ => true) true fuel 22 [.slice a0 len cap] = some (d, p) := hf0
  rcases open_slice Try.underlying22 hf with ⟨hcs, hx⟩ | ⟨a, len', cap', m, n, D, Pl, hcs, _, hl, hm, hmm, hx, hi⟩
  · simp at hcs
    obtain ⟨rfl, rfl, rfl⟩ := hcs
    exact ⟨none, 0, [], rfl, ⟨none, 0, [], rfl, RdL.nil _ _ _ _, AllV.nil _ _, (fun _ => rfl), Nat.le_refl _, Nat.zero_le _⟩, (fun y h => absurd h List.not_mem_nil)⟩
  · simp at hcs
    obtain ⟨rfl, rfl, rfl⟩ := hcs
    simp only [if_true] at hmm
    subst hmm
    have each : ∀ i, i < m → ∃ y : (Txt × Value) × List Txt, W.cells? 0 (a.add (i * 2)) 2 = some (valc y.1) ∧ y.1.1.length ≤ maxLen ∧ TxR W y.1.2 y.2 := fun i him => by
      obtain ⟨cs', hc, ht⟩ := hi i him
      rw [cellsVal] at hc
      obtain ⟨y, rfl, g1, g2⟩ := open_val ht
      exact ⟨y, hc, g1, g2⟩
    obtain ⟨Y, hY⟩ := choose_lt each
    obtain ⟨b, off, spot⟩ := a
    have hspot : 0 < m → spot = none := fun h0 => by
      have h1 := (World.cells?_some (hY 0 h0).1).2.2 0 (by omega)
      have h2 : (valc (Y 0).1)[0]? = some (.string ⟨(Y 0).1.1.toArray⟩) := rfl
      rw [h2] at h1
      have h3 := World.cell?_spot h1
      simpa [Addr.add] using h3
    refine ⟨some ⟨b, off, spot⟩, m, (List.range len).map fun i => ((Y i).1.1, (Y i).2), by simp, ⟨some ⟨b, off, spot⟩, m, (List.range len).map fun i => (Y i).1, by simp, fun k hk => ?_, ⟨by simp, fun i h1 h2 => ?_⟩, (fun h => by cases h), by simpa using hl, hm⟩, fun y hy => ?_⟩
    · have hk' : k < m := by simp at hk; omega
      have hg : ((List.range len).map fun i => (Y i).1)[k] = (Y k).1 := by simp
      rw [hg]
      have hs := hspot (by omega)
      subst hs
      have h1 := (World.cells?_some (hY k hk').1).2.2
      have h0 := h1 0 (by omega)
      refine ⟨b, off, rfl, ?_, fun j u hu => ?_⟩
      · have h2 : (valc (Y k).1)[0]? = some (.string ⟨(Y k).1.1.toArray⟩) := rfl
        rw [h2] at h0
        rw [Addr.add_lit, Addr.add_lit] at h0
        exact World.block_lt_of_cell? _ _ h0
      · have hj : j < 2 := (List.getElem?_eq_some_iff.1 hu).1
        have h4 := h1 j hj
        rw [hu, Addr.add_lit, Addr.add_lit] at h4
        exact h4
    · have hi' : i < m := by simp at h1; omega
      simp only [List.getElem_map, List.getElem_range]
      exact ⟨trivial, (hY i hi').2.2⟩
    · obtain ⟨i, hi, rfl⟩ := List.mem_map.1 hy
      exact (hY i (by have := List.mem_range.1 hi; omega)).2.1
end Go.Proofs.Ytcnkljbckpkgcaa
