/- What the seventeen package-level errors hold, out of the row's list. No condition. -/
import Derived.Test.YtpogngdddendiaaDoorHU
import Derived.Test.YtpogngdddendiaaDoorErrs
set_option linter.unusedVariables false
set_option linter.unusedSimpArgs false
namespace Go.Proofs.YtpogngdddendiaaDoor
open Go.RowKit

/-- One listed error: what its variable holds, that it lies in a block with no frozen range, and its text. -/
theorem laid_errP {P : Program} {n nm : String} {text : List UInt8} {W : World} {g : Nat} {ti tp te ts : TypeId} {ms : Array (String × TypeId)} {f : Field}
    (hg : P.globalNamed n = some g) (ht : (P.globals[g]?).map (·.type) = some ti) (hi : P.underlying ti = some (.interface ms)) (hrow : ∀ u, P.typeName? 3 u = some nm → u = tp)
    (hp : P.underlying tp = some (.pointer te)) (he : P.underlying te = some (.struct #[f])) (hft : f.type = ts) (hfo : f.offset = 0) (hs : P.underlying ts = some .string) (hc : P.cellsOf te = 1) (hcs : P.cellsOf ts = 1) :
    ∀ (l : List (String × DataW Unit)) (ps : List MemPlace), DataW.LaidVars P W l ps →
      (∀ b off, MemPlace.cell b off ∈ ps → (∃ c t, W.heap[b]? = some (.cells c t (0, 0))) ∧ ∀ u v, W.cell? ⟨b, off, none⟩ = some (.iface u v) → Value.okWide P W .any 0 u v) →
      (n, DataW.iface nm (.ptr (.agg [.lit (.string text)]))) ∈ l →
      ∃ (a : Addr) (s : ByteArray), W.cell? ⟨g, 0, none⟩ = some (.iface tp (.pointer (some a))) ∧ W.cell? a = some (.string s) ∧ s.data.toList = text ∧ ∃ t c, Blk W a.block t c
  | [], _, _, _, hm => absurd hm List.not_mem_nil
  | (n', d) :: r, ps, ⟨g0, t0, cs0, f0, p0, q0, hg0, ht0, hv0, hd0, hr, e0⟩, hrows, hm => by
    subst e0
    rcases List.mem_cons.1 hm with h | h
    · cases h
      obtain rfl := Option.some.inj (hg.symm.trans hg0)
      obtain rfl := Option.some.inj (ht.symm.trans ht0)
      obtain ⟨l0⟩ := cs0
      have ok0 : ∀ u v, l0 = [.iface u v] → Value.okWide P W .any 0 u v := fun u v e => by
        subst e
        exact (hrows g 0 (by simp [MemPlace.row])).2 u v (by simpa using World.var?_cell hg0 hv0 0)
      obtain ⟨a0, s0, rfl, hc0, hs0, hz0, rfl⟩ := errorString_of_trod hi hrow hp he hft hfo hs hc hcs hd0 ok0
      obtain ⟨c0, u0, hb0⟩ := (hrows a0.block a0.off (by simp [MemPlace.row])).1
      exact ⟨a0, s0, World.var?_cell hg hv0 0, hc0, hs0, u0, c0, hb0⟩
    · exact laid_errP hg ht hi hrow hp he hft hfo hs hc hcs r q0 hr (fun b off hmem => hrows b off (by simp [hmem])) h
theorem laid_err {n : String} {text : List UInt8} {W : World} {g : Nat}
    (hg : Tryd.prog.globalNamed n = some g) (ht : (Tryd.prog.globals[g]?).map (·.type) = some 25) (l : List (String × DataW Unit)) (ps : List MemPlace) (hl : DataW.LaidVars Tryd.prog W l ps)
    (hrows : ∀ b off, MemPlace.cell b off ∈ ps → (∃ c t, W.heap[b]? = some (.cells c t (0, 0))) ∧ ∀ u v, W.cell? ⟨b, off, none⟩ = some (.iface u v) → Value.okWide Tryd.prog W .any 0 u v)
    (hm : (n, DataW.iface "*errors.errorString" (.ptr (.agg [.lit (.string text)]))) ∈ l) :
    ∃ (a : Addr) (s : ByteArray), W.cell? ⟨g, 0, none⟩ = some (sentV a) ∧ W.cell? a = some (.string s) ∧ s.data.toList = text ∧ ∃ t c, Blk W a.block t c :=
  laid_errP hg ht Tryd.underlying25 rowErr Tryd.underlying226 Tryd.underlying240 rfl rfl Tryd.underlying9 cellsErr cellsStr l ps hl hrows hm

/-- names, places, texts -/
def E17 : List (String × Nat × List UInt8) := [("patois/api.ErrLong", 5, [116, 111, 111, 32, 108, 111, 110, 103]), ("patois/api.ErrNest", 4, [110, 101, 115, 116, 101, 100, 32, 116, 111, 111, 32, 100, 101, 101, 112]), ("patois/api.ErrQuote", 6, [97, 32, 113, 117, 111, 116, 101, 32, 116, 104, 97, 116, 32, 100, 111, 101, 115, 32, 110, 111, 116, 32, 101, 110, 100]), ("patois/api.ErrParen", 7, [97, 32, 98, 114, 97, 99, 107, 101, 116, 32, 116, 104, 97, 116, 32, 100, 111, 101, 115, 32, 110, 111, 116, 32, 101, 110, 100]), ("patois/api.ErrBrace", 8, [97, 32, 98, 114, 97, 99, 101, 32, 116, 104, 97, 116, 32, 100, 111, 101, 115, 32, 110, 111, 116, 32, 101, 110, 100]), ("patois/api.ErrName", 9, [110, 111, 32, 110, 97, 109, 101]), ("patois/api.ErrToken", 10, [110, 111, 32, 116, 111, 107, 101, 110]), ("patois/api.ErrForm", 11, [105, 116, 32, 100, 111, 101, 115, 32, 110, 111, 116, 32, 115, 116, 97, 110, 100, 32, 104, 101, 114, 101]), ("patois/api.ErrEnd", 12, [105, 116, 32, 101, 110, 100, 115, 32, 116, 111, 111, 32, 101, 97, 114, 108, 121]), ("patois/api.ErrNode", 3, [110, 111, 32, 112, 114, 111, 103, 114, 97, 109]), ("patois/api.ErrMany", 0, [116, 111, 111, 32, 109, 97, 110, 121]), ("patois/api.ErrFuel", 13, [116, 111, 111, 32, 109, 97, 110, 121, 32, 115, 116, 101, 112, 115]), ("patois/api.ErrDeep", 14, [99, 97, 108, 108, 101, 100, 32, 116, 111, 111, 32, 100, 101, 101, 112]), ("patois/api.ErrBig", 15, [116, 111, 111, 32, 98, 105, 103]), ("patois/api.ErrSay", 16, [105, 116, 32, 99, 97, 110, 110, 111, 116, 32, 98, 101, 32, 115, 97, 105, 100]), ("patois/api.ErrCode", 1, [110, 111, 32, 99, 111, 100, 101]), ("patois/api.ErrNumber", 2, [110, 111, 32, 115, 117, 99, 104, 32, 110, 117, 109, 98, 101, 114])]
def d17 (r : String × Nat × List UInt8) : String × DataW Unit := (r.1, DataW.iface "*errors.errorString" (.ptr (.agg [.lit (.string r.2.2)])))
theorem E17_good : (E17.all fun r => decide (Tryd.prog.globalNamed r.1 = some r.2.1) && decide ((Tryd.prog.globals[r.2.1]?).map (·.type) = some 25)) = true := by kernel_rfl
theorem E17_gs : E17.map (·.2.1) = gsE := rfl
theorem E17_nodup : (E17.map (·.2.2)).Nodup := by decide +kernel

theorem errs_list {W : World} (ps : List MemPlace) (hps : DataW.LaidVars Tryd.prog W (E17.map d17) ps)
    (hrows : ∀ b off, MemPlace.cell b off ∈ ps → (∃ c t, W.heap[b]? = some (.cells c t (0, 0))) ∧ ∀ u v, W.cell? ⟨b, off, none⟩ = some (.iface u v) → Value.okWide Tryd.prog W .any 0 u v) :
    ∀ rs : List (String × Nat × List UInt8), (∀ r ∈ rs, r ∈ E17) → ∃ L : List Addr, L.length = rs.length ∧
      ∀ (i : Nat) (r : String × Nat × List UInt8) (a : Addr), rs[i]? = some r → L[i]? = some a → W.cell? ⟨r.2.1, 0, none⟩ = some (sentV a) ∧ (∃ s : ByteArray, W.cell? a = some (.string s) ∧ s.data.toList = r.2.2) ∧ ∃ t c, Blk W a.block t c
  | [], _ => ⟨[], rfl, fun i r a h => by cases h⟩
  | r :: rs, hm => by
    obtain ⟨L, hl, hL⟩ := errs_list ps hps hrows rs fun x hx => hm x (List.mem_cons_of_mem _ hx)
    have hr := hm r (List.mem_cons_self ..)
    have hg := List.all_eq_true.1 E17_good r hr
    rw [Bool.and_eq_true, decide_eq_true_eq, decide_eq_true_eq] at hg
    obtain ⟨a, s, h1, h2, h3, h4⟩ := laid_err hg.1 hg.2 _ ps hps hrows (List.mem_map.2 ⟨r, hr, rfl⟩)
    refine ⟨a :: L, by simp [hl], fun i r' a' hi hi' => ?_⟩
    cases i with
    | zero =>
      simp only [List.getElem?_cons_zero, Option.some.injEq] at hi hi'
      subst hi hi'
      exact ⟨h1, ⟨s, h2, h3⟩, h4⟩
    | succ i => exact hL i r' a' (by simpa using hi) (by simpa using hi')

theorem errs17_of {W : World} (h : laidMet Tryd.prog (E17.map d17) W) : ∃ L, SenW W L := by
  obtain ⟨ps, hps, _, hrows⟩ := h
  obtain ⟨L, hl, hL⟩ := errs_list ps hps hrows E17 fun _ h => h
  have hl17 : L.length = 17 := hl
  have hat : ∀ i, i < 17 → ∃ r, E17[i]? = some r := fun i hi => ⟨E17[i]'hi, List.getElem?_eq_getElem hi⟩
  refine ⟨L, hl, fun i g a hg ha => ?_, fun a ha => ?_, fun i j a hi hj => ?_⟩
  · rw [← E17_gs, List.getElem?_map] at hg
    cases hr : E17[i]? with
    | none => rw [hr] at hg; cases hg
    | some r =>
      rw [hr] at hg
      simp only [Option.map_some, Option.some.injEq] at hg
      subst hg
      exact (hL i r a hr ha).1
  · obtain ⟨i, hi, rfl⟩ := List.getElem_of_mem ha
    obtain ⟨r, hr⟩ := hat i (by omega)
    exact (hL i r _ hr (List.getElem?_eq_getElem hi)).2.2
  · have hi' := (List.getElem?_eq_some_iff.1 hi).1
    have hj' := (List.getElem?_eq_some_iff.1 hj).1
    obtain ⟨r, hr⟩ := hat i (by omega)
    obtain ⟨q, hq⟩ := hat j (by omega)
    obtain ⟨_, ⟨s, h1, h2⟩, _⟩ := hL i r a hr hi
    obtain ⟨_, ⟨u, h3, h4⟩, _⟩ := hL j q a hq hj
    rw [h1] at h3
    injection h3 with h3
    injection h3 with h3
    subst h3
    have ht : r.2.2 = q.2.2 := h2.symm.trans h4
    refine (List.getElem?_inj (l := E17.map (·.2.2)) (by rw [List.length_map]; exact (show i < 17 by omega)) E17_nodup).1 ?_
    rw [List.getElem?_map, List.getElem?_map, hr, hq]
    simp [ht]
theorem errs17 {W : World} (h : laidMet Tryd.prog [("patois/api.ErrLong", Rows.laid_patois_api_ErrLong), ("patois/api.ErrNest", Rows.laid_patois_api_ErrNest), ("patois/api.ErrQuote", Rows.laid_patois_api_ErrQuote), ("patois/api.ErrParen", Rows.laid_patois_api_ErrParen), ("patois/api.ErrBrace", Rows.laid_patois_api_ErrBrace), ("patois/api.ErrName", Rows.laid_patois_api_ErrName), ("patois/api.ErrToken", Rows.laid_patois_api_ErrToken), ("patois/api.ErrForm", Rows.laid_patois_api_ErrForm), ("patois/api.ErrEnd", Rows.laid_patois_api_ErrEnd), ("patois/api.ErrNode", Rows.laid_patois_api_ErrNode), ("patois/api.ErrMany", Rows.laid_patois_api_ErrMany), ("patois/api.ErrFuel", Rows.laid_patois_api_ErrFuel), ("patois/api.ErrDeep", Rows.laid_patois_api_ErrDeep), ("patois/api.ErrBig", Rows.laid_patois_api_ErrBig), ("patois/api.ErrSay", Rows.laid_patois_api_ErrSay), ("patois/api.ErrCode", Rows.laid_patois_api_ErrCode), ("patois/api.ErrNumber", Rows.laid_patois_api_ErrNumber)] W) : ∃ L, SenW W L := errs17_of h

/-- What package core's three are among the seventeen. -/
theorem SenW.errw {W : World} {L : List Addr} (h : SenW W L) : ∃ aN aT aM, ErrW W aN aT aM ∧ L[9]? = some aN ∧ L[1]? = some aT ∧ L[10]? = some aM := by
  have hl := h.len
  have h9 := List.getElem?_eq_getElem (show 9 < L.length by omega)
  have h1 := List.getElem?_eq_getElem (show 1 < L.length by omega)
  have h10 := List.getElem?_eq_getElem (show 10 < L.length by omega)
  exact ⟨_, _, _, ⟨h.var 9 _ _ rfl h9, h.var 1 _ _ rfl h1, h.var 10 _ _ rfl h10⟩, h9, h1, h10⟩
end Go.Proofs.YtpogngdddendiaaDoor
