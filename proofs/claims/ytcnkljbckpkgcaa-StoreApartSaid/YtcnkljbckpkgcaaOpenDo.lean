/- Arguments that are slices of variables with what the form's reach says of their lists, and of things that a store is told. No condition. -/
import Derived.Test.YtcnkljbckpkgcaaOpenNS
import Derived.Test.YtcnkljbckpkgcaaStoO
import Derived.SizedLaws
set_option linter.unusedVariables false
set_option linter.unusedSimpArgs false
namespace Go.Proofs.Ytcnkljbckpkgcaa
open Go.ChangeShapes Go.WideShapes Go.RowKit Go.Deep

theorem weights_allW {H : Type} {P : Program} {e : TypeId} {d : DataW H} {n : Nat} : ∀ {l : List (DataW H)}, d ∈ l → n ∈ d.weights P e → n ∈ DataW.weightsAll P e l
  | x :: r, h, hn => by
    rw [DataW.weightsAll, List.mem_append]
    rcases List.mem_cons.1 h with h | h
    · subst h; exact .inl hn
    · exact .inr (weights_allW h hn)
theorem bytesStrW : Try.prog.bytesOf 9 = 16 := by kernel_rfl
set_option maxRecDepth 100000 in
theorem open_txs_w {H : Type} {enc : TypeId × Value → H} {W : World} {fuel : Nat} {cs : List Value} {x : DataW H × List MemPlace}
    (hf : DataW.trod enc Try.prog W 0 (fun _ => true) true fuel 29 cs = some x) (hw : ∀ q ∈ DataW.weights Try.prog 29 x.1, q ≤ reachBytes) : ∀ A n c, cs = [.slice A n c] → n ≤ 8796093022208 := by
  rintro A n c rfl
  obtain ⟨d, p⟩ := x
  rcases open_slice Try.underlying29 hf with ⟨hcs, hx⟩ | ⟨a, len, cap, m, k, D, Pl, hcs, _, hl, hm, hmm, hx, hi⟩
  · simp only [List.cons.injEq, Value.slice.injEq, and_true] at hcs
    obtain ⟨_, rfl, _⟩ := hcs
    exact Nat.zero_le _
  · simp only [List.cons.injEq, Value.slice.injEq, and_true] at hcs
    obtain ⟨_, rfl, _⟩ := hcs
    simp only [Prod.mk.injEq] at hx
    rw [hx.1] at hw
    simp only [DataW.weights, Try.underlying29, bytesStrW, List.length_map, List.length_range] at hw
    have := hw _ (List.mem_cons_self ..)
    unfold reachBytes at this
    omega
set_option maxRecDepth 100000 in
theorem open_val_w {H : Type} {enc : TypeId × Value → H} {W : World} {fuel : Nat} {cs : List Value} {x : DataW H × List MemPlace}
    (h : DataW.trod enc Try.prog W 0 (fun _ => true) true fuel 34 cs = some x) (hw : ∀ q ∈ DataW.weights Try.prog 34 x.1, q ≤ reachBytes) :
    ∃ y : (Txt × Value) × List Txt, cs = valc y.1 ∧ y.1.1.length ≤ maxLen ∧ TxR W y.1.2 y.2 ∧ y.2.length ≤ 8796093022208 := by
  obtain ⟨ys, m, _, hx, hlen, hyl, hf⟩ := DataW.trod_struct Try.underlying34 h
  rw [cellsVal] at hlen
  obtain ⟨v0, v1, rfl⟩ : ∃ v0 v1, cs = [v0, v1] := list2 hlen
  obtain ⟨y0, y1, rfl⟩ : ∃ v0 v1, ys = [v0, v1] := list2 hyl
  have h0 := hf 0 _ rfl
  have h1 := hf 1 _ rfl
  simp only [cellsStrsV, cellsStrS, List.drop_zero, List.drop_succ_cons, List.take_succ_cons, List.take_zero, List.getElem?_cons_zero, List.getElem?_cons_succ] at h0 h1
  obtain ⟨s4, e4, f4, w4⟩ := DataW.trod_string Try.underlying9 h0
  have hbk := open_txs_w h1 (fun q hq => hw q (by
    rw [hx]
    simp only [DataW.weights, Try.underlying34, List.map_cons, List.map_nil, DataW.weightsEach, List.mem_append]
    exact .inr (.inl hq)))
  obtain ⟨v, L, e5, f5⟩ := open_txs_raw h1
  obtain rfl := (List.cons.inj e4).1
  obtain rfl := (List.cons.inj e5).1
  obtain ⟨A, c, hv, h3⟩ := f5
  exact ⟨((s4.data.toList, v1), L), rfl, by simpa using w4, ⟨A, c, hv, h3⟩, hbk A L.length c (e5.trans (by rw [hv]))⟩
set_option maxRecDepth 100000 in
theorem open_vals_w {H : Type} {enc : TypeId × Value → H} {W : World} {v : Value} {d : DataW H} {p : List MemPlace}
    (hv : Value.okWide Try.prog W .any 0 22 v) (h : DataW.Trod enc Try.prog W 0 (fun _ => true) true 22 v d p) (hw : ∀ q ∈ DataW.weights Try.prog 22 d, q ≤ reachBytes) :
    ∃ A c, ∃ M : List (Txt × List Txt), v = .slice A M.length c ∧ ValR W v M ∧ (∀ y ∈ M, y.1.length ≤ maxLen) ∧ ∀ y ∈ M, y.2.length ≤ 8796093022208 := by
  obtain ⟨a0, len, cap, rfl⟩ := okWide_slice Try.underlying22 hv
  obtain ⟨fuel, hf0⟩ := h
  have hf : DataW.trod enc Try.prog W 0 (fun _ => true) true fuel 22 [.slice a0 len cap] = some (d, p) := hf0
  rcases open_slice Try.underlying22 hf with ⟨hcs, hx⟩ | ⟨a, len', cap', m, n, D, Pl, hcs, _, hl, hm, hmm, hx, hi⟩
  · simp at hcs
    obtain ⟨rfl, rfl, rfl⟩ := hcs
    exact ⟨none, 0, [], rfl, ⟨none, 0, [], rfl, RdL.nil _ _ _ _, AllV.nil _ _, (fun _ => rfl), Nat.le_refl _, Nat.zero_le _⟩, (fun y h => absurd h List.not_mem_nil), (fun y h => absurd h List.not_mem_nil)⟩
  · simp at hcs
    obtain ⟨rfl, rfl, rfl⟩ := hcs
    simp only [if_true] at hmm
    subst hmm
    simp only [Prod.mk.injEq] at hx
    have hd : d = .slice ((List.range len).map D) ((List.range (m - len)).map fun j => D (len + j)) := hx.1
    have each : ∀ i, i < m → ∃ y : (Txt × Value) × List Txt, W.cells? 0 (a.add (i * 2)) 2 = some (valc y.1) ∧ y.1.1.length ≤ maxLen ∧ TxR W y.1.2 y.2 ∧ y.2.length ≤ 8796093022208 := fun i him => by
      obtain ⟨cs', hc, ht⟩ := hi i him
      rw [cellsVal] at hc
      obtain ⟨y, rfl, g1, g2, g3⟩ := open_val_w ht (fun q hq => hw q (by
        by_cases hil : i < len
        · have h2 : D i ∈ (List.range len).map D := List.mem_map.2 ⟨i, List.mem_range.2 hil, rfl⟩
          rw [hd]
          simp only [DataW.weights, Try.underlying22, List.mem_cons, List.mem_append]
          exact .inr (.inl (weights_allW h2 hq))
        · have h2 : D i ∈ (List.range (m - len)).map fun j => D (len + j) := List.mem_map.2 ⟨i - len, List.mem_range.2 (by omega), by simp only [show len + (i - len) = i by omega]⟩
          rw [hd]
          simp only [DataW.weights, Try.underlying22, List.mem_cons, List.mem_append]
          exact .inr (.inr (weights_allW h2 hq))))
      exact ⟨y, hc, g1, g2, g3⟩
    obtain ⟨Y, hY⟩ := choose_lt each
    obtain ⟨b, off, spot⟩ := a
    have hspot : 0 < m → spot = none := fun h0 => by
      have h1 := (World.cells?_some (hY 0 h0).1).2.2 0 (by omega)
      have h2 : (valc (Y 0).1)[0]? = some (.string ⟨(Y 0).1.1.toArray⟩) := rfl
      rw [h2] at h1
      have h3 := World.cell?_spot h1
      simpa [Addr.add] using h3
    refine ⟨some ⟨b, off, spot⟩, m, (List.range len).map fun i => ((Y i).1.1, (Y i).2), by simp, ⟨some ⟨b, off, spot⟩, m, (List.range len).map fun i => (Y i).1, by simp, fun k hk => ?_, ⟨by simp, fun i h1 h2 => ?_⟩, (fun h => by cases h), by simpa using hl, hm⟩, fun y hy => ?_, fun y hy => ?_⟩
    · have hk' : k < m := by simp at hk; omega
      have hg : ((List.range len).map fun i => (Y i).1)[k] = (Y k).1 := by simp
      rw [hg]
      have hs := hspot (by omega)
      subst hs
      have h1 := (World.cells?_some (hY k hk').1).2.2
      have h0 := h1 0 (by omega)
      refine ⟨b, off, rfl, ?_, fun j u hu => ?_⟩
      · have h2 : (valc (Y k).1)[0]? = some (.string ⟨(Y k).1.1.toArray⟩) := rfl
        rw [h2] at h0
        rw [Addr.add_lit, Addr.add_lit] at h0
        exact World.block_lt_of_cell? _ _ h0
      · have hj : j < 2 := (List.getElem?_eq_some_iff.1 hu).1
        have h4 := h1 j hj
        rw [hu, Addr.add_lit, Addr.add_lit] at h4
        exact h4
    · have hi' : i < m := by simp at h1; omega
      simp only [List.getElem_map, List.getElem_range]
      exact ⟨trivial, (hY i hi').2.2.1⟩
    · obtain ⟨i, hi, rfl⟩ := List.mem_map.1 hy
      exact (hY i (by have := List.mem_range.1 hi; omega)).2.1
    · obtain ⟨i, hi, rfl⟩ := List.mem_map.1 hy
      exact (hY i (by have := List.mem_range.1 hi; omega)).2.2.2
set_option maxRecDepth 100000 in
theorem open_nds_raw {H : Type} {enc : TypeId × Value → H} {W : World} {fuel : Nat} {cs : List Value} {x : DataW H × List MemPlace}
    (hf : DataW.trod enc Try.prog W 0 (fun _ => true) true fuel 38 cs = some x) : ∃ v, ∃ L : List Nd, cs = [v] ∧ SlRd W v L := by
  obtain ⟨d, p⟩ := x
  rcases open_slice Try.underlying38 hf with ⟨hcs, hx⟩ | ⟨a, len, cap, m, n, D, Pl, hcs, _, hl, hm, hmm, hx, hi⟩
  · subst hcs
    exact ⟨_, [], rfl, none, 0, rfl, RdL.nil _ _ _ _, Nat.le_refl _, Nat.zero_le _, (fun _ => rfl), trivial⟩
  · subst hcs
    simp only [if_true] at hmm
    subst hmm
    have each : ∀ i, i < m → ∃ y : Nd, W.cells? 0 (a.add (i * 5)) 5 = some (ndc y) := fun i him => by
      obtain ⟨cs', hc, ht⟩ := hi i him
      rw [cellsNode] at hc
      obtain ⟨y, rfl, _⟩ := open_node ht
      exact ⟨y, hc⟩
    obtain ⟨Y, hY⟩ := choose_lt each
    obtain ⟨b, off, spot⟩ := a
    have hspot : 0 < m → spot = none := fun h0 => by
      have h1 := (World.cells?_some (hY 0 h0)).2.2 0 (by omega)
      have h2 : (ndc (Y 0))[0]? = some (.int .i64 (Y 0).kind) := rfl
      rw [h2] at h1
      have h3 := World.cell?_spot h1
      simpa [Addr.add] using h3
    have hget : ∀ k (hk : k < ((List.range len).map Y).length), ((List.range len).map Y)[k] = Y k := fun k hk => by simp
    refine ⟨_, (List.range len).map Y, rfl, some ⟨b, off, spot⟩, m, by simp, fun k hk => ?_, by simpa using hl, hm, (fun h => by cases h), trivial⟩
    rw [hget k hk]
    have hk' : k < m := by simp at hk; omega
    have hs := hspot (by omega)
    subst hs
    have h1 := (World.cells?_some (hY k hk')).2.2
    have h0 := h1 0 (by omega)
    refine ⟨b, off, rfl, ?_, fun j u hu => ?_⟩
    · have h2 : (ndc (Y k))[0]? = some (.int .i64 (Y k).kind) := rfl
      rw [h2] at h0
      rw [Addr.add_lit, Addr.add_lit] at h0
      exact World.block_lt_of_cell? _ _ h0
    · have hj : j < 5 := (List.getElem?_eq_some_iff.1 hu).1
      have h4 := h1 j hj
      rw [hu, Addr.add_lit, Addr.add_lit] at h4
      exact h4
theorem cellsDo : Try.prog.cellsOf 40 = 5 := by kernel_rfl
theorem cellsBoolD : Try.prog.cellsOf 4 = 1 := by kernel_rfl
theorem cellsNdsD : Try.prog.cellsOf 38 = 1 := by kernel_rfl
set_option maxRecDepth 100000 in
theorem open_do {H : Type} {enc : TypeId × Value → H} {W : World} {fuel : Nat} {cs : List Value} {x : DataW H × List MemPlace}
    (h : DataW.trod enc Try.prog W 0 (fun _ => true) true fuel 40 cs = some x) :
    ∃ y : DoV × DoD, cs = doC y.1 ∧ Do1 W y.1 y.2 := by
  obtain ⟨ys, m, _, hx, hlen, hyl, hf⟩ := DataW.trod_struct Try.underlying40 h
  rw [cellsDo] at hlen
  obtain ⟨v0, v1, v2, v3, v4, rfl⟩ : ∃ v0 v1 v2 v3 v4, cs = [v0, v1, v2, v3, v4] := list5 hlen
  obtain ⟨y0, y1, y2, y3, y4, rfl⟩ : ∃ v0 v1 v2 v3 v4, ys = [v0, v1, v2, v3, v4] := list5 hyl
  have h0 := hf 0 _ rfl
  have h1 := hf 1 _ rfl
  have h2 := hf 2 _ rfl
  have h3 := hf 3 _ rfl
  have h4 := hf 4 _ rfl
  simp only [cellsInt, cellsStr, cellsStrsV, cellsBoolD, cellsNdsD, List.drop_zero, List.drop_succ_cons, List.take_succ_cons, List.take_zero, List.getElem?_cons_zero, List.getElem?_cons_succ] at h0 h1 h2 h3 h4
  obtain ⟨a0, e0, _, _⟩ := DataW.trod_int Try.underlying3 h0
  obtain ⟨s1, e1, _, _⟩ := DataW.trod_string Try.underlying9 h1
  obtain ⟨u2, L, e2, f2⟩ := open_txs_raw h2
  obtain ⟨b3, e3, _⟩ := DataW.trod_bool Try.underlying4 h3
  obtain ⟨u4, P, e4, f4⟩ := open_nds_raw h4
  obtain rfl := (List.cons.inj e0).1
  obtain rfl := (List.cons.inj e1).1
  obtain rfl := (List.cons.inj e2).1
  obtain rfl := (List.cons.inj e3).1
  obtain rfl := (List.cons.inj e4).1
  exact ⟨(⟨a0, s1.data.toList, v2, b3, v4⟩, ⟨a0, s1.data.toList, L, b3, P⟩), rfl, ⟨rfl, rfl, rfl, f2, f4⟩⟩
instance : Inhabited (DoV × DoD) := ⟨(⟨0, [], .slice none 0 0, false, .slice none 0 0⟩, ⟨0, [], [], false, []⟩)⟩
set_option maxRecDepth 100000 in
theorem open_dos {H : Type} {enc : TypeId × Value → H} {W : World} {v : Value} {d : DataW H} {p : List MemPlace}
    (hv : Value.okWide Try.prog W .any 0 23 v) (h : DataW.Trod enc Try.prog W 0 (fun _ => true) true 23 v d p) :
    ∃ A c, ∃ M : List DoD, v = .slice A M.length c ∧ DoR W v M := by
  obtain ⟨a0, len, cap, rfl⟩ := okWide_slice Try.underlying23 hv
  obtain ⟨fuel, hf0⟩ := h
  have hf : DataW.trod enc Try.prog W 0 (fun _ => true) true fuel 23 [.slice a0 len cap] = some (d, p) := hf0
  rcases open_slice Try.underlying23 hf with ⟨hcs, hx⟩ | ⟨a, len', cap', m, n, D, Pl, hcs, _, hl, hm, hmm, hx, hi⟩
  · simp at hcs
    obtain ⟨rfl, rfl, rfl⟩ := hcs
    exact ⟨none, 0, [], rfl, none, 0, [], rfl, RdL.nil _ _ _ _, ⟨rfl, fun i h => absurd h (Nat.not_lt_zero _)⟩, (fun _ => rfl), Nat.le_refl _, Nat.zero_le _⟩
  · simp at hcs
    obtain ⟨rfl, rfl, rfl⟩ := hcs
    simp only [if_true] at hmm
    subst hmm
    have each : ∀ i, i < m → ∃ y : DoV × DoD, W.cells? 0 (a.add (i * 5)) 5 = some (doC y.1) ∧ Do1 W y.1 y.2 := fun i him => by
      obtain ⟨cs', hc, ht⟩ := hi i him
      rw [cellsDo] at hc
      obtain ⟨y, rfl, g1⟩ := open_do ht
      exact ⟨y, hc, g1⟩
    obtain ⟨Y, hY⟩ := choose_lt each
    obtain ⟨b, off, spot⟩ := a
    have hspot : 0 < m → spot = none := fun h0 => by
      have h1 := (World.cells?_some (hY 0 h0).1).2.2 0 (by omega)
      have h2 : (doC (Y 0).1)[0]? = some (.int .i64 (Y 0).1.kind) := rfl
      rw [h2] at h1
      have h3 := World.cell?_spot h1
      simpa [Addr.add] using h3
    refine ⟨some ⟨b, off, spot⟩, m, (List.range len).map fun i => (Y i).2, by simp, some ⟨b, off, spot⟩, m, (List.range len).map fun i => (Y i).1, by simp, fun k hk => ?_, ⟨by simp, fun i h1 h2 => ?_⟩, (fun h => by cases h), by simpa using hl, hm⟩
    · have hk' : k < m := by simp at hk; omega
      have hg : ((List.range len).map fun i => (Y i).1)[k] = (Y k).1 := by simp
      rw [hg]
      have hs := hspot (by omega)
      subst hs
      have h1 := (World.cells?_some (hY k hk').1).2.2
      have h0 := h1 0 (by omega)
      refine ⟨b, off, rfl, ?_, fun j u hu => ?_⟩
      · have h2 : (doC (Y k).1)[0]? = some (.int .i64 (Y k).1.kind) := rfl
        rw [h2] at h0
        rw [Addr.add_lit, Addr.add_lit] at h0
        exact World.block_lt_of_cell? _ _ h0
      · have hj : j < 5 := (List.getElem?_eq_some_iff.1 hu).1
        have h4 := h1 j hj
        rw [hu, Addr.add_lit, Addr.add_lit] at h4
        exact h4
    · have hi' : i < m := by simp at h1; omega
      simp only [List.getElem_map, List.getElem_range]
      exact (hY i hi').2
end Go.Proofs.Ytcnkljbckpkgcaa
