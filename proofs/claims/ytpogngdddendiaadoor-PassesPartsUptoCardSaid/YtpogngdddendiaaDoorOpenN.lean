/- Arguments that are slices of nodes, as the walks want them; what the package-level errors hold. No condition. -/
import Derived.Test.YtpogngdddendiaaDoorRows
import Derived.Test.YtpogngdddendiaaDoorHB
import Derived.Test.YtpogngdddendiaaDoorCheckW
import Derived.ProofKit
import Derived.Carry
import Derived.Deep.Slices
import Derived.Stop.LaidErr
set_option linter.unusedVariables false
set_option linter.unusedSimpArgs false
namespace Go.Proofs.YtpogngdddendiaaDoor
open Go.ChangeShapes Go.WideShapes Go.RowKit Go.Deep

theorem cellsNode : Tryd.prog.cellsOf 98 = 5 := by kernel_rfl
theorem cellsInt : Tryd.prog.cellsOf 3 = 1 := by kernel_rfl
theorem cellsStr : Tryd.prog.cellsOf 9 = 1 := by kernel_rfl

theorem list5 {α : Type} : ∀ {l : List α}, l.length = 5 → ∃ v0 v1 v2 v3 v4, l = [v0, v1, v2, v3, v4]
  | [v0, v1, v2, v3, v4], _ => ⟨v0, v1, v2, v3, v4, rfl⟩
set_option maxRecDepth 100000 in
/-- A node's cells out of its reading. -/
theorem open_node {H : Type} {enc : TypeId × Value → H} {W : World} {base : Nat} {sp : Nat → Bool} {held : Bool} {fuel : Nat} {cs : List Value} {x : DataW H × List MemPlace}
    (h : DataW.trod enc Tryd.prog W base sp held fuel 98 cs = some x) :
    ∃ y : Nd, cs = ndc y ∧ y.s.length ≤ maxLen ∧ (Lit.int .i64 y.kind).wf = true ∧ (Lit.int .i64 y.n).wf = true ∧ (Lit.int .i64 y.k).wf = true ∧ (Lit.int .i64 y.size).wf = true ∧ x.1 = .agg [.lit (.int .i64 y.kind), .lit (.int .i64 y.n), .lit (.int .i64 y.k), .lit (.int .i64 y.size), .lit (.string y.s)] := by
  obtain ⟨ys, m, _, hx, hlen, hyl, hf⟩ := DataW.trod_struct Tryd.underlying98 h
  rw [cellsNode] at hlen
  obtain ⟨v0, v1, v2, v3, v4, rfl⟩ : ∃ v0 v1 v2 v3 v4, cs = [v0, v1, v2, v3, v4] := list5 hlen
  obtain ⟨y0, y1, y2, y3, y4, rfl⟩ : ∃ v0 v1 v2 v3 v4, ys = [v0, v1, v2, v3, v4] := list5 hyl
  have h0 := hf 0 _ rfl
  have h1 := hf 1 _ rfl
  have h2 := hf 2 _ rfl
  have h3 := hf 3 _ rfl
  have h4 := hf 4 _ rfl
  simp only [cellsInt, cellsStr, List.drop_zero, List.drop_succ_cons, List.take_succ_cons, List.take_zero, List.getElem?_cons_zero, List.getElem?_cons_succ] at h0 h1 h2 h3 h4
  obtain ⟨a0, e0, f0, w0⟩ := DataW.trod_int Tryd.underlying3 h0
  obtain ⟨a1, e1, f1, w1⟩ := DataW.trod_int Tryd.underlying3 h1
  obtain ⟨a2, e2, f2, w2⟩ := DataW.trod_int Tryd.underlying3 h2
  obtain ⟨a3, e3, f3, w3⟩ := DataW.trod_int Tryd.underlying3 h3
  obtain ⟨s4, e4, f4, w4⟩ := DataW.trod_string Tryd.underlying9 h4
  obtain rfl := (List.cons.inj e0).1
  obtain rfl := (List.cons.inj e1).1
  obtain rfl := (List.cons.inj e2).1
  obtain rfl := (List.cons.inj e3).1
  obtain rfl := (List.cons.inj e4).1
  subst f0 f1 f2 f3 f4
  refine ⟨⟨a0, a1, a2, a3, s4.data.toList⟩, rfl, by simpa using w4, w0, w1, w2, w3, ?_⟩
  rw [hx]
  rfl

theorem bulk_part {H : Type} {d : DataW H} {l : List (DataW H)} (h : d ∈ l) : Rows.uptoBulk d ≤ Rows.uptoBulkAll l := by
  induction l with
  | nil => cases h
  | cons x r ih =>
    simp only [Rows.uptoBulkAll]
    cases List.mem_cons.1 h with
    | inl e => subst e; omega
    | inr e => have := ih e; omega
theorem bulk_one {H : Type} (d : DataW H) : 1 ≤ Rows.uptoBulk d := by
  cases d with
  | lit l => cases l <;> simp [Rows.uptoBulk]
  | nil => simp [Rows.uptoBulk]
  | ptr d => simp [Rows.uptoBulk]
  | slice elems spare => simp [Rows.uptoBulk]
  | agg parts => simp [Rows.uptoBulk]
  | iface t d => simp [Rows.uptoBulk]
  | map entries => simp [Rows.uptoBulk]
  | held h => simp [Rows.uptoBulk]
theorem bulk_len {H : Type} (l : List (DataW H)) : l.length ≤ Rows.uptoBulkAll l := by
  induction l with
  | nil => simp [Rows.uptoBulkAll]
  | cons x r ih => have := bulk_one x; simp only [Rows.uptoBulkAll, List.length_cons]; omega
theorem bulk_node {H : Type} (y : Nd) : y.s.length ≤ Rows.uptoBulk (DataW.agg (H := H) [.lit (.int .i64 y.kind), .lit (.int .i64 y.n), .lit (.int .i64 y.k), .lit (.int .i64 y.size), .lit (.string y.s)]) := by
  simp only [Rows.uptoBulk, Rows.uptoBulkAll]
  omega

instance : Inhabited Nd := ⟨⟨0, 0, 0, 0, []⟩⟩
/-- What a node that came in is. -/
def NdIn (y : Nd) : Prop := y.s.length ≤ maxLen ∧ (Lit.int .i64 y.kind).wf = true ∧ (Lit.int .i64 y.n).wf = true ∧ (Lit.int .i64 y.k).wf = true ∧ (Lit.int .i64 y.size).wf = true

set_option maxRecDepth 100000 in
theorem open_nodes {H : Type} {enc : TypeId × Value → H} {W : World} {v : Value} {d : DataW H} {p : List MemPlace}
    (hv : Value.okWide Tryd.prog W .any 0 22 v) (h : DataW.Trod enc Tryd.prog W 0 (fun _ => true) true 22 v d p) :
    ∃ A c, ∃ L : List Nd, v = .slice A L.length c ∧ RdL W 5 ndc A L ∧ L.length ≤ c ∧ c ≤ maxLen ∧ (A = none → c = 0) ∧ (0 < c → ∀ ad, A = some ad → ad.spot = none) ∧ (∀ y ∈ L, NdIn y) ∧
      L.length ≤ Rows.uptoBulk d ∧ ∀ y ∈ L, y.s.length ≤ Rows.uptoBulk d := by
  obtain ⟨a0, len, cap, rfl⟩ := okWide_slice Tryd.underlying22 hv
  obtain ⟨fuel, hf0⟩ := h
  have hf : DataW.trod enc Tryd.prog W 0 (fun _ => true) true fuel 22 [.slice a0 len cap] = some (d, p) := hf0
  rcases open_slice Tryd.underlying22 hf with ⟨hcs, hx⟩ | ⟨a, len', cap', m, n, D, Pl, hcs, _, hl, hm, hmm, hx, hi⟩
  · simp at hcs
    obtain ⟨rfl, rfl, rfl⟩ := hcs
    exact ⟨none, 0, [], rfl, RdL.nil _ _ _ _, Nat.le_refl _, by decide, (fun _ => rfl), (fun h => absurd h (Nat.lt_irrefl _)), (fun y h => absurd h List.not_mem_nil), Nat.zero_le _, (fun y h => absurd h List.not_mem_nil)⟩
  · simp at hcs
    obtain ⟨rfl, rfl, rfl⟩ := hcs
    simp only [if_true] at hmm
    subst hmm
    have each : ∀ i, i < m → ∃ y : Nd, W.cells? 0 (a.add (i * 5)) 5 = some (ndc y) ∧ NdIn y ∧ D i = .agg [.lit (.int .i64 y.kind), .lit (.int .i64 y.n), .lit (.int .i64 y.k), .lit (.int .i64 y.size), .lit (.string y.s)] := fun i him => by
      obtain ⟨cs', hc, ht⟩ := hi i him
      rw [cellsNode] at hc
      obtain ⟨y, rfl, g1, g2, g3, g4, g5, g6⟩ := open_node ht
      exact ⟨y, hc, ⟨g1, g2, g3, g4, g5⟩, g6⟩
    obtain ⟨Y, hY⟩ := choose_lt each
    obtain ⟨b, off, spot⟩ := a
    have hspot : 0 < m → spot = none := fun h0 => by
      have h1 := (World.cells?_some (hY 0 h0).1).2.2 0 (by omega)
      have h2 : (ndc (Y 0))[0]? = some (.int .i64 (Y 0).kind) := rfl
      rw [h2] at h1
      have h3 := World.cell?_spot h1
      simpa [Addr.add] using h3
    have hget : ∀ k (hk : k < ((List.range len).map Y).length), ((List.range len).map Y)[k] = Y k := fun k hk => by simp
    simp only [Prod.mk.injEq] at hx
    have hd : d = .slice ((List.range len).map D) ((List.range (m - len)).map fun j => D (len + j)) := hx.1
    have hmem : ∀ y ∈ (List.range len).map Y, ∃ i, i < len ∧ y = Y i := fun y hy => by
      obtain ⟨i, hi, rfl⟩ := List.mem_map.1 hy
      exact ⟨i, by simpa using hi, rfl⟩
    refine ⟨some ⟨b, off, spot⟩, m, (List.range len).map Y, by simp, fun k hk => ?_, by simpa using hl, hm, (fun h => by cases h), (fun h0 ad had => by cases had; exact hspot h0), ?_, ?_, ?_⟩
    · rw [hget k hk]
      have hk' : k < m := by simp at hk; omega
      have hs := hspot (by omega)
      subst hs
      have h1 := (World.cells?_some (hY k hk').1).2.2
      have h0 := h1 0 (by omega)
      refine ⟨b, off, rfl, ?_, fun j u hu => ?_⟩
      · have h2 : (ndc (Y k))[0]? = some (.int .i64 (Y k).kind) := rfl
        rw [h2] at h0
        rw [Addr.add_lit, Addr.add_lit] at h0
        exact World.block_lt_of_cell? _ _ h0
      · have hj : j < 5 := (List.getElem?_eq_some_iff.1 hu).1
        have h4 := h1 j hj
        rw [hu, Addr.add_lit, Addr.add_lit] at h4
        exact h4
    · intro y hy
      obtain ⟨i, hi, rfl⟩ := hmem y hy
      exact (hY i (by omega)).2.1
    · rw [hd]
      simp only [Rows.uptoBulk]
      have := bulk_len ((List.range len).map D)
      simp only [List.length_map, List.length_range] at this ⊢
      omega
    · intro y hy
      obtain ⟨i, hi, rfl⟩ := hmem y hy
      have h1 := bulk_node (H := H) (Y i)
      rw [← (hY i (by omega)).2.2] at h1
      have h2 := bulk_part (List.mem_map.2 ⟨i, List.mem_range.2 hi, rfl⟩ : D i ∈ (List.range len).map D)
      rw [hd]
      simp only [Rows.uptoBulk]
      omega

theorem cellsBool : Tryd.prog.cellsOf 4 = 1 := by kernel_rfl
set_option maxRecDepth 100000 in
theorem open_bools {H : Type} {enc : TypeId × Value → H} {W : World} {v : Value} {d : DataW H} {p : List MemPlace}
    (hv : Value.okWide Tryd.prog W .any 0 33 v) (h : DataW.Trod enc Tryd.prog W 0 (fun _ => true) true 33 v d p) :
    ∃ A c, ∃ L : List Bool, v = .slice A L.length c ∧ RdL W 1 (fun b => [Value.bool b]) A L ∧ L.length ≤ c ∧ c ≤ maxLen := by
  obtain ⟨a0, len, cap, rfl⟩ := okWide_slice Tryd.underlying33 hv
  obtain ⟨fuel, hf0⟩ := h
  have hf : DataW.trod enc Tryd.prog W 0 (fun _ => true) true fuel 33 [.slice a0 len cap] = some (d, p) := hf0
  rcases open_slice Tryd.underlying33 hf with ⟨hcs, hx⟩ | ⟨a, len', cap', m, n, D, Pl, hcs, _, hl, hm, hmm, hx, hi⟩
  · simp at hcs
    obtain ⟨rfl, rfl, rfl⟩ := hcs
    exact ⟨none, 0, [], rfl, RdL.nil _ _ _ _, Nat.le_refl _, by decide⟩
  · simp at hcs
    obtain ⟨rfl, rfl, rfl⟩ := hcs
    simp only [if_true] at hmm
    subst hmm
    have each : ∀ i, i < m → ∃ y : Bool, W.cell? (a.add i) = some (.bool y) := fun i him => by
      obtain ⟨cs', hc, ht⟩ := hi i him
      rw [cellsBool, Nat.mul_one] at hc
      obtain ⟨y, rfl, _⟩ := DataW.trod_bool Tryd.underlying4 ht
      exact ⟨y, cell_of_cells?_one hc⟩
    obtain ⟨Y, hY⟩ := choose_lt each
    obtain ⟨b, off, spot⟩ := a
    have hget : ∀ k (hk : k < ((List.range len).map Y).length), ((List.range len).map Y)[k] = Y k := fun k hk => by simp
    refine ⟨some ⟨b, off, spot⟩, m, (List.range len).map Y, by simp, fun k hk => ?_, by simpa using hl, hm⟩
    rw [hget k hk]
    have hk' : k < m := by simp at hk; omega
    have hs : spot = none := by simpa [Addr.add] using World.cell?_spot (hY 0 (by omega))
    subst hs
    have h1 := hY k hk'
    rw [Addr.add_lit] at h1
    refine ⟨b, off, rfl, World.block_lt_of_cell? _ _ h1, fun j u hu => ?_⟩
    have hj : j = 0 := by
      have := (List.getElem?_eq_some_iff.1 hu).1
      simp at this
      exact this
    subst hj
    rw [Nat.mul_one, Nat.add_zero, h1]
    simpa using hu
end Go.Proofs.YtpogngdddendiaaDoor
