/- Arguments that are slices of instructions as plain data, and what the form's reach says of their texts. No condition. -/
import Derived.Test.YtpogngdddendiaaDoorGO
import Derived.Test.YtpogngdddendiaaDoorGL
import Derived.Test.YtpogngdddendiaaDoorCodeI
import Derived.SizedLaws
set_option linter.unusedVariables false
set_option linter.unusedSimpArgs false
namespace Go.Proofs.YtpogngdddendiaaDoor
open Go.ChangeShapes Go.WideShapes Go.RowKit Go.Deep

theorem weights_allP {H : Type} {P : Program} {e : TypeId} {d : DataW H} {n : Nat} : ∀ {l : List (DataW H)}, d ∈ l → n ∈ d.weights P e → n ∈ DataW.weightsAll P e l
  | x :: r, h, hn => by
    rw [DataW.weightsAll, List.mem_append]
    rcases List.mem_cons.1 h with h | h
    · subst h; exact .inl hn
    · exact .inr (weights_allP h hn)
theorem list4 {α : Type} : ∀ {l : List α}, l.length = 4 → ∃ a b c d, l = [a, b, c, d]
  | [a, b, c, d], _ => ⟨a, b, c, d, rfl⟩
theorem inI_of {n : Int} (h : (Lit.int .i64 n).wf = true) : InI n := by
  have h2 : (decide (-9223372036854775808 ≤ n) && decide (n ≤ 9223372036854775807)) = true := h
  simpa [InI] using h2
instance : Inhabited Ins := ⟨⟨0, 0, 0, []⟩⟩
def InsIn (y : Ins) : Prop := InI y.op ∧ InI y.a ∧ InI y.b

theorem cellsStep22 : Tryd.prog.cellsOf 64 = 4 := by kernel_rfl
set_option maxRecDepth 100000 in
theorem open_step22 {H : Type} {enc : TypeId × Value → H} {W : World} {base : Nat} {sp : Nat → Bool} {held : Bool} {fuel : Nat} {cs : List Value} {x : DataW H × List MemPlace}
    (h : DataW.trod enc Tryd.prog W base sp held fuel 64 cs = some x) :
    ∃ y : Ins, cs = insc y ∧ InsIn y ∧ x.1 = .agg [.lit (.int .i64 y.op), .lit (.int .i64 y.a), .lit (.int .i64 y.b), .lit (.string y.s)] := by
  obtain ⟨ys, m, _, hx, hlen, hyl, hf⟩ := DataW.trod_struct Tryd.underlying64 h
  rw [cellsStep22] at hlen
  obtain ⟨v0, v1, v2, v3, rfl⟩ : ∃ v0 v1 v2 v3, cs = [v0, v1, v2, v3] := list4 hlen
  obtain ⟨y0, y1, y2, y3, rfl⟩ : ∃ v0 v1 v2 v3, ys = [v0, v1, v2, v3] := list4 hyl
  have h0 := hf 0 _ rfl
  have h1 := hf 1 _ rfl
  have h2 := hf 2 _ rfl
  have h3 := hf 3 _ rfl
  simp only [cellsInt, cellsStr, List.drop_zero, List.drop_succ_cons, List.take_succ_cons, List.take_zero, List.getElem?_cons_zero, List.getElem?_cons_succ] at h0 h1 h2 h3
  obtain ⟨a0, e0, f0, w0⟩ := DataW.trod_int Tryd.underlying3 h0
  obtain ⟨a1, e1, f1, w1⟩ := DataW.trod_int Tryd.underlying3 h1
  obtain ⟨a2, e2, f2, w2⟩ := DataW.trod_int Tryd.underlying3 h2
  obtain ⟨s4, e4, f4, w4⟩ := DataW.trod_string Tryd.underlying9 h3
  obtain rfl := (List.cons.inj e0).1
  obtain rfl := (List.cons.inj e1).1
  obtain rfl := (List.cons.inj e2).1
  obtain rfl := (List.cons.inj e4).1
  subst f0 f1 f2 f4
  refine ⟨⟨a0, a1, a2, s4.data.toList⟩, rfl, ⟨inI_of w0, inI_of w1, inI_of w2⟩, ?_⟩
  rw [hx]
  rfl
set_option maxRecDepth 100000 in
theorem open_steps22 {H : Type} {enc : TypeId × Value → H} {W : World} {v : Value} {d : DataW H} {p : List MemPlace}
    (hv : Value.okWide Tryd.prog W .any 0 53 v) (h : DataW.Trod enc Tryd.prog W 0 (fun _ => true) true 53 v d p) :
    ∃ A c, ∃ L : List Ins, v = .slice A L.length c ∧ RdL W 4 insc A L ∧ L.length ≤ c ∧ c ≤ maxLen ∧ (∀ y ∈ L, InsIn y) ∧ ∀ y ∈ L, y.s.length ∈ DataW.weights Tryd.prog 53 d := by
  obtain ⟨a0, len, cap, rfl⟩ := okWide_slice Tryd.underlying53 hv
  obtain ⟨fuel, hf0⟩ := h
  have hf : DataW.trod enc Tryd.prog W 0 (fun _ => true) true fuel 53 [.slice a0 len cap] = some (d, p) := hf0
  rcases open_slice Tryd.underlying53 hf with ⟨hcs, hx⟩ | ⟨a, len', cap', m, n, D, Pl, hcs, _, hl, hm, hmm, hx, hi⟩
  · simp at hcs
    obtain ⟨rfl, rfl, rfl⟩ := hcs
    exact ⟨none, 0, [], rfl, RdL.nil _ _ _ _, Nat.le_refl _, by decide, (fun y h => absurd h List.not_mem_nil), (fun y h => absurd h List.not_mem_nil)⟩
  · simp at hcs
    obtain ⟨rfl, rfl, rfl⟩ := hcs
    simp only [if_true] at hmm
    subst hmm
    have each : ∀ i, i < m → ∃ y : Ins, W.cells? 0 (a.add (i * 4)) 4 = some (insc y) ∧ InsIn y ∧ D i = .agg [.lit (.int .i64 y.op), .lit (.int .i64 y.a), .lit (.int .i64 y.b), .lit (.string y.s)] := fun i him => by
      obtain ⟨cs', hc, ht⟩ := hi i him
      rw [cellsStep22] at hc
      obtain ⟨y, rfl, g1, g2⟩ := open_step22 ht
      exact ⟨y, hc, g1, g2⟩
    obtain ⟨Y, hY⟩ := choose_lt each
    obtain ⟨b, off, spot⟩ := a
    have hspot : 0 < m → spot = none := fun h0 => by
      have h1 := (World.cells?_some (hY 0 h0).1).2.2 0 (by omega)
      have h2 : (insc (Y 0))[0]? = some (.int .i64 (Y 0).op) := rfl
      rw [h2] at h1
      have h3 := World.cell?_spot h1
      simpa [Addr.add] using h3
    have hget : ∀ k (hk : k < ((List.range len).map Y).length), ((List.range len).map Y)[k] = Y k := fun k hk => by simp
    simp only [Prod.mk.injEq] at hx
    have hd : d = .slice ((List.range len).map D) ((List.range (m - len)).map fun j => D (len + j)) := hx.1
    have hmem : ∀ y ∈ (List.range len).map Y, ∃ i, i < len ∧ y = Y i := fun y hy => by
      obtain ⟨i, hi, rfl⟩ := List.mem_map.1 hy
      exact ⟨i, by simpa using hi, rfl⟩
    refine ⟨some ⟨b, off, spot⟩, m, (List.range len).map Y, by simp, fun k hk => ?_, by simpa using hl, hm, ?_, ?_⟩
    · rw [hget k hk]
      have hk' : k < m := by simp at hk; omega
      have hs := hspot (by omega)
      subst hs
      have h1 := (World.cells?_some (hY k hk').1).2.2
      have h0 := h1 0 (by omega)
      refine ⟨b, off, rfl, ?_, fun j u hu => ?_⟩
      · have h2 : (insc (Y k))[0]? = some (.int .i64 (Y k).op) := rfl
        rw [h2] at h0
        rw [Addr.add_lit, Addr.add_lit] at h0
        exact World.block_lt_of_cell? _ _ h0
      · have hj : j < 4 := (List.getElem?_eq_some_iff.1 hu).1
        have h4 := h1 j hj
        rw [hu, Addr.add_lit, Addr.add_lit] at h4
        exact h4
    · intro y hy
      obtain ⟨i, hi, rfl⟩ := hmem y hy
      exact (hY i (by omega)).2.1
    · intro y hy
      obtain ⟨i, hi, rfl⟩ := hmem y hy
      have h2 : D i ∈ (List.range len).map D := List.mem_map.2 ⟨i, List.mem_range.2 hi, rfl⟩
      rw [hd]
      simp only [DataW.weights, Tryd.underlying53, List.mem_cons, List.mem_append]
      refine .inr (.inl (weights_allP h2 ?_))
      rw [(hY i (by omega)).2.2]
      simp [DataW.weights, DataW.weightsEach, Tryd.underlying64]


theorem cellsStep24 : Tryd.prog.cellsOf 84 = 4 := by kernel_rfl
set_option maxRecDepth 100000 in
theorem open_step24 {H : Type} {enc : TypeId × Value → H} {W : World} {base : Nat} {sp : Nat → Bool} {held : Bool} {fuel : Nat} {cs : List Value} {x : DataW H × List MemPlace}
    (h : DataW.trod enc Tryd.prog W base sp held fuel 84 cs = some x) :
    ∃ y : Ins, cs = insc y ∧ InsIn y ∧ x.1 = .agg [.lit (.int .i64 y.op), .lit (.int .i64 y.a), .lit (.int .i64 y.b), .lit (.string y.s)] := by
  obtain ⟨ys, m, _, hx, hlen, hyl, hf⟩ := DataW.trod_struct Tryd.underlying84 h
  rw [cellsStep24] at hlen
  obtain ⟨v0, v1, v2, v3, rfl⟩ : ∃ v0 v1 v2 v3, cs = [v0, v1, v2, v3] := list4 hlen
  obtain ⟨y0, y1, y2, y3, rfl⟩ : ∃ v0 v1 v2 v3, ys = [v0, v1, v2, v3] := list4 hyl
  have h0 := hf 0 _ rfl
  have h1 := hf 1 _ rfl
  have h2 := hf 2 _ rfl
  have h3 := hf 3 _ rfl
  simp only [cellsInt, cellsStr, List.drop_zero, List.drop_succ_cons, List.take_succ_cons, List.take_zero, List.getElem?_cons_zero, List.getElem?_cons_succ] at h0 h1 h2 h3
  obtain ⟨a0, e0, f0, w0⟩ := DataW.trod_int Tryd.underlying3 h0
  obtain ⟨a1, e1, f1, w1⟩ := DataW.trod_int Tryd.underlying3 h1
  obtain ⟨a2, e2, f2, w2⟩ := DataW.trod_int Tryd.underlying3 h2
  obtain ⟨s4, e4, f4, w4⟩ := DataW.trod_string Tryd.underlying9 h3
  obtain rfl := (List.cons.inj e0).1
  obtain rfl := (List.cons.inj e1).1
  obtain rfl := (List.cons.inj e2).1
  obtain rfl := (List.cons.inj e4).1
  subst f0 f1 f2 f4
  refine ⟨⟨a0, a1, a2, s4.data.toList⟩, rfl, ⟨inI_of w0, inI_of w1, inI_of w2⟩, ?_⟩
  rw [hx]
  rfl
set_option maxRecDepth 100000 in
theorem open_steps24 {H : Type} {enc : TypeId × Value → H} {W : World} {v : Value} {d : DataW H} {p : List MemPlace}
    (hv : Value.okWide Tryd.prog W .any 0 39 v) (h : DataW.Trod enc Tryd.prog W 0 (fun _ => true) true 39 v d p) :
    ∃ A c, ∃ L : List Ins, v = .slice A L.length c ∧ RdL W 4 insc A L ∧ L.length ≤ c ∧ c ≤ maxLen ∧ (∀ y ∈ L, InsIn y) ∧ ∀ y ∈ L, y.s.length ∈ DataW.weights Tryd.prog 39 d := by
  obtain ⟨a0, len, cap, rfl⟩ := okWide_slice Tryd.underlying39 hv
  obtain ⟨fuel, hf0⟩ := h
  have hf : DataW.trod enc Tryd.prog W 0 (fun _ => true) true fuel 39 [.slice a0 len cap] = some (d, p) := hf0
  rcases open_slice Tryd.underlying39 hf with ⟨hcs, hx⟩ | ⟨a, len', cap', m, n, D, Pl, hcs, _, hl, hm, hmm, hx, hi⟩
  · simp at hcs
    obtain ⟨rfl, rfl, rfl⟩ := hcs
    exact ⟨none, 0, [], rfl, RdL.nil _ _ _ _, Nat.le_refl _, by decide, (fun y h => absurd h List.not_mem_nil), (fun y h => absurd h List.not_mem_nil)⟩
  · simp at hcs
    obtain ⟨rfl, rfl, rfl⟩ := hcs
    simp only [if_true] at hmm
    subst hmm
    have each : ∀ i, i < m → ∃ y : Ins, W.cells? 0 (a.add (i * 4)) 4 = some (insc y) ∧ InsIn y ∧ D i = .agg [.lit (.int .i64 y.op), .lit (.int .i64 y.a), .lit (.int .i64 y.b), .lit (.string y.s)] := fun i him => by
      obtain ⟨cs', hc, ht⟩ := hi i him
      rw [cellsStep24] at hc
      obtain ⟨y, rfl, g1, g2⟩ := open_step24 ht
      exact ⟨y, hc, g1, g2⟩
    obtain ⟨Y, hY⟩ := choose_lt each
    obtain ⟨b, off, spot⟩ := a
    have hspot : 0 < m → spot = none := fun h0 => by
      have h1 := (World.cells?_some (hY 0 h0).1).2.2 0 (by omega)
      have h2 : (insc (Y 0))[0]? = some (.int .i64 (Y 0).op) := rfl
      rw [h2] at h1
      have h3 := World.cell?_spot h1
      simpa [Addr.add] using h3
    have hget : ∀ k (hk : k < ((List.range len).map Y).length), ((List.range len).map Y)[k] = Y k := fun k hk => by simp
    simp only [Prod.mk.injEq] at hx
    have hd : d = .slice ((List.range len).map D) ((List.range (m - len)).map fun j => D (len + j)) := hx.1
    have hmem : ∀ y ∈ (List.range len).map Y, ∃ i, i < len ∧ y = Y i := fun y hy => by
      obtain ⟨i, hi, rfl⟩ := List.mem_map.1 hy
      exact ⟨i, by simpa using hi, rfl⟩
    refine ⟨some ⟨b, off, spot⟩, m, (List.range len).map Y, by simp, fun k hk => ?_, by simpa using hl, hm, ?_, ?_⟩
    · rw [hget k hk]
      have hk' : k < m := by simp at hk; omega
      have hs := hspot (by omega)
      subst hs
      have h1 := (World.cells?_some (hY k hk').1).2.2
      have h0 := h1 0 (by omega)
      refine ⟨b, off, rfl, ?_, fun j u hu => ?_⟩
      · have h2 : (insc (Y k))[0]? = some (.int .i64 (Y k).op) := rfl
        rw [h2] at h0
        rw [Addr.add_lit, Addr.add_lit] at h0
        exact World.block_lt_of_cell? _ _ h0
      · have hj : j < 4 := (List.getElem?_eq_some_iff.1 hu).1
        have h4 := h1 j hj
        rw [hu, Addr.add_lit, Addr.add_lit] at h4
        exact h4
    · intro y hy
      obtain ⟨i, hi, rfl⟩ := hmem y hy
      exact (hY i (by omega)).2.1
    · intro y hy
      obtain ⟨i, hi, rfl⟩ := hmem y hy
      have h2 : D i ∈ (List.range len).map D := List.mem_map.2 ⟨i, List.mem_range.2 hi, rfl⟩
      rw [hd]
      simp only [DataW.weights, Tryd.underlying39, List.mem_cons, List.mem_append]
      refine .inr (.inl (weights_allP h2 ?_))
      rw [(hY i (by omega)).2.2]
      simp [DataW.weights, DataW.weightsEach, Tryd.underlying84]

end Go.Proofs.YtpogngdddendiaaDoor
