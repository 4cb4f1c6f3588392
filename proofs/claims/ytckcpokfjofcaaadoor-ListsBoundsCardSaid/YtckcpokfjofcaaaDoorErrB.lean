/- What the package-level error ErrBig holds, out of the row's list. No condition. -/
import Derived.Test.YtckcpokfjofcaaaDoorRows
import Derived.Test.YtckcpokfjofcaaaDoorListW1
import Derived.Test.YtckcpokfjofcaaaDoorOpenS
import Derived.ProofKit
import Derived.Carry
import Derived.Stop.LaidErr
set_option linter.unusedVariables false
set_option linter.unusedSimpArgs false
namespace Go.Proofs.YtckcpokfjofcaaaDoor
open Go.ChangeShapes Go.WideShapes Go.RowKit

theorem rowErr (u : TypeId) (h : Tryd.prog.typeName? 3 u = some "*errors.errorString") : u = 112 :=
  typeName_ptr_named (nm := "errors.errorString") (by rw [show ("*" ++ "errors.errorString" : String) = "*errors.errorString" by decide]; kernel_rfl) (by kernel_rfl) (by decide) u (by rw [show ("*" ++ "errors.errorString" : String) = "*errors.errorString" by decide]; exact h)
theorem cellsErr : Tryd.prog.cellsOf 127 = 1 := by kernel_rfl
theorem gBig : Tryd.prog.globalNamed "patois/api.ErrBig" = some 0 := by kernel_rfl
theorem tBig : (Tryd.prog.globals[0]?).map (·.type) = some 27 := by kernel_rfl

/-- One listed error: what its variable holds, and that it lies in a block with no frozen range. -/
theorem laid_errP {P : Program} {n nm : String} {text : List UInt8} {W : World} {g : Nat} {ti tp te ts : TypeId} {ms : Array (String × TypeId)} {f : Field}
    (hg : P.globalNamed n = some g) (ht : (P.globals[g]?).map (·.type) = some ti) (hi : P.underlying ti = some (.interface ms)) (hrow : ∀ u, P.typeName? 3 u = some nm → u = tp)
    (hp : P.underlying tp = some (.pointer te)) (he : P.underlying te = some (.struct #[f])) (hft : f.type = ts) (hfo : f.offset = 0) (hs : P.underlying ts = some .string) (hc : P.cellsOf te = 1) (hcs : P.cellsOf ts = 1) :
    ∀ (l : List (String × DataW Unit)) (ps : List MemPlace), DataW.LaidVars P W l ps →
      (∀ b off, MemPlace.cell b off ∈ ps → (∃ c t, W.heap[b]? = some (.cells c t (0, 0))) ∧ ∀ u v, W.cell? ⟨b, off, none⟩ = some (.iface u v) → Value.okWide P W .any 0 u v) →
      (n, DataW.iface nm (.ptr (.agg [.lit (.string text)]))) ∈ l →
      ∃ (a : Addr) (s : ByteArray), W.cell? ⟨g, 0, none⟩ = some (.iface tp (.pointer (some a))) ∧ W.cell? a = some (.string s) ∧ s.data.toList = text ∧ ∃ t c, Blk W a.block t c
  | [], _, _, _, hm => absurd hm List.not_mem_nil
  | (n', d) :: r, ps, ⟨g0, t0, cs0, f0, p0, q0, hg0, ht0, hv0, hd0, hr, e0⟩, hrows, hm => by
    subst e0
    rcases List.mem_cons.1 hm with h | h
    · cases h
      obtain rfl := Option.some.inj (hg.symm.trans hg0)
      obtain rfl := Option.some.inj (ht.symm.trans ht0)
      obtain ⟨l0⟩ := cs0
      have ok0 : ∀ u v, l0 = [.iface u v] → Value.okWide P W .any 0 u v := fun u v e => by
        subst e
        exact (hrows g 0 (by simp [MemPlace.row])).2 u v (by simpa using World.var?_cell hg0 hv0 0)
      obtain ⟨a0, s0, rfl, hc0, hs0, hz0, rfl⟩ := errorString_of_trod hi hrow hp he hft hfo hs hc hcs hd0 ok0
      obtain ⟨c0, u0, hb0⟩ := (hrows a0.block a0.off (by simp [MemPlace.row])).1
      exact ⟨a0, s0, World.var?_cell hg hv0 0, hc0, hs0, u0, c0, hb0⟩
    · exact laid_errP hg ht hi hrow hp he hft hfo hs hc hcs r q0 hr (fun b off hmem => hrows b off (by simp [hmem])) h
theorem errb {W : World} {l : List (String × DataW Unit)} (h : laidMet Tryd.prog l W) (hm : ("patois/api.ErrBig", Rows.laid_patois_api_ErrBig) ∈ l) : ∃ a, BigW W a ∧ ∃ t c, Blk W a.block t c := by
  obtain ⟨ps, hps, _, hrows⟩ := h
  obtain ⟨a, s, h1, _, _, h4⟩ := laid_errP gBig tBig Tryd.underlying27 rowErr Tryd.underlying112 Tryd.underlying127 rfl rfl Tryd.underlying9 cellsErr cellsStrS l ps hps hrows hm
  exact ⟨a, h1, h4⟩
end Go.Proofs.YtckcpokfjofcaaaDoor
