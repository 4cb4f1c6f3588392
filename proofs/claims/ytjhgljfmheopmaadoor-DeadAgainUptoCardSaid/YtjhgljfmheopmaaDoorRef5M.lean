/- What patoisref5.look tells beside core.look: children that lie in one another until one does not fit, with no program in sight. No condition. -/
import Derived.Test.YtjhgljfmheopmaaDoorCheckM
set_option linter.unusedVariables false
set_option linter.unusedSimpArgs false
namespace Go.Proofs.YtjhgljfmheopmaaDoor

/-- The children from place c on: so many fit, and the next one's size does not. -/
def chainP (L : List Nd) (e : Nat) : Nat → Nat → Prop
  | 0, c => c < e ∧ ∃ y, L[c]? = some y ∧ (y.size < 1 ∨ y.size > (e : Int) - c)
  | r + 1, c => c < e ∧ ∃ y, L[c]? = some y ∧ ¬ (y.size < 1 ∨ y.size > (e : Int) - c) ∧ chainP L e r (c + y.size.toNat)
theorem chain_lt {L : List Nd} {e r c : Nat} (h : chainP L e r c) : c < e := by
  cases r with
  | zero => exact h.1
  | succ r => exact h.1
theorem chain_bad {L : List Nd} {e c : Nat} (h : c < e) (hc : c < L.length) (hs : L[c].size < 1 ∨ L[c].size > (e : Int) - c) : chainP L e 0 c := ⟨h, _, List.getElem?_eq_getElem hc, hs⟩
theorem chain_next {L : List Nd} {e r c : Nat} (h : c < e) (hc : c < L.length) (hs : ¬ (L[c].size < 1 ∨ L[c].size > (e : Int) - c)) (hn : chainP L e r (c + L[c].size.toNat)) : chainP L e (r + 1) c := ⟨h, _, List.getElem?_eq_getElem hc, hs, hn⟩
theorem chain_at0 {L : List Nd} {e c : Nat} (h : chainP L e 0 c) (hc : c < L.length) : L[c].size < 1 ∨ L[c].size > (e : Int) - c := by
  obtain ⟨_, y, h1, h2⟩ := h
  rw [List.getElem?_eq_getElem hc] at h1
  injection h1 with h1
  rw [h1]; exact h2
theorem chain_at {L : List Nd} {e r c : Nat} (h : chainP L e (r + 1) c) (hc : c < L.length) : ¬ (L[c].size < 1 ∨ L[c].size > (e : Int) - c) ∧ chainP L e r (c + L[c].size.toNat) := by
  obtain ⟨_, y, h1, h2, h3⟩ := h
  rw [List.getElem?_eq_getElem hc] at h1
  injection h1 with h1
  subst h1
  exact ⟨h2, h3⟩
theorem chain_not {L : List Nd} {e : Nat} {f : Nat → Nat → Option (Nat × Bool)} (he : e ≤ L.length) (hf : ∀ k c (hc : c < L.length), f k c = none → 1 ≤ L[c].size ∧ L[c].size ≤ (e : Int) - c) :
    ∀ (r r' k c : Nat), r < r' → chainP L e r c → kidsP f L r' k c ≠ none := by
  intro r
  induction r with
  | zero =>
    intro r' k c hr h hn
    obtain ⟨s, rfl⟩ : ∃ s, r' = s + 1 := ⟨r' - 1, by omega⟩
    have hc : c < L.length := by have := chain_lt h; omega
    cases hz : f k c with
    | some z => rw [kidsP_some hz] at hn; cases hn
    | none =>
      have h1 := hf k c hc hz
      have h2 := chain_at0 h hc
      omega
  | succ r ih =>
    intro r' k c hr h hn
    obtain ⟨s, rfl⟩ : ∃ s, r' = s + 1 := ⟨r' - 1, by omega⟩
    have hc : c < L.length := by have := chain_lt h; omega
    cases hz : f k c with
    | some z => rw [kidsP_some hz] at hn; cases hn
    | none =>
      rw [kidsP_none hz hc] at hn
      exact ih s (k + 1) _ (by omega) (chain_at h hc).2 hn
/-- Where a child's size does not fit something is amiss. -/
theorem lookP_chain {L : List Nd} {d i e r : Nat} {word last : Bool} {x : Nd} (hx : L[i]? = some x) (he : e ≤ L.length) (hr : r < x.k.toNat) (h : chainP L (i + x.size.toNat) r (i + 1)) : (lookP L d i e word last).isNone = false := by
  cases hl : lookP L d i e word last with
  | some z => rfl
  | none =>
    exfalso
    cases hb : headBad x ((e : Int) - i) word last with
    | true => rw [lookP_bad hx hb] at hl; cases hl
    | false =>
      by_cases h2 : x.k = 0 ∧ x.size ≠ 1
      · rw [lookP_leaf hx hb h2] at hl; cases hl
      · cases h3 : preP L (i + x.size.toNat) x.k.toNat (i + 1) with
        | true => rw [lookP_pre hx hb h2 h3] at hl; cases hl
        | false =>
          cases d with
          | zero => rw [lookP_deep hx hb h2 h3] at hl; cases hl
          | succ d =>
            rw [lookP_kids hx hb h2 h3] at hl
            obtain ⟨_, _, _, _, h5, _⟩ := headBad_false hb
            exact chain_not (by omega) (fun k c hc hz => by have := lookP_fits hc hz; exact ⟨this.1, this.2.1⟩) r _ 0 (i + 1) hr h hl
end Go.Proofs.YtjhgljfmheopmaaDoor
