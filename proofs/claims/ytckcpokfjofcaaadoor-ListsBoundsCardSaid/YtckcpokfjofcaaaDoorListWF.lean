/- Small words on lists of texts for the laws of chapter 3. No condition. -/
import Derived.Test.YtckcpokfjofcaaaDoorListW9
set_option linter.unusedVariables false
set_option linter.unusedSimpArgs false
namespace Go.Proofs.YtckcpokfjofcaaaDoor
open Go.RowKit

def errV (a : Addr) : Option (List (List UInt8)) → Value
  | none => bigV a
  | some _ => .nilIface
theorem ListRet.lv {r : Option (List (List UInt8))} {a : Addr} {w : World} {e : Ending} {w' : World} (h : ListRet r a w e w') : ∃ v er, e = .returned (.tuple #[v, er]) ∧ er = errV a r ∧ SlS w' v (r.getD []) ∧ Below w.heap.size w w' := by
  cases r with
  | none => exact ⟨_, _, h.1, rfl, SlS.nil _, h.2⟩
  | some l =>
    obtain ⟨v, rfl, ho, hb⟩ := h
    exact ⟨v, _, rfl, rfl, ho.rd, hb⟩
theorem ListRet.lw {r : Option (List (List UInt8))} {a : Addr} {w : World} {e : Ending} {w' : World} (h : ListRet r a w e w') : ∃ A n c er, e = .returned (.tuple #[.slice A n c, er]) ∧ er = errV a r ∧ SlS w' (.slice A n c) (r.getD []) ∧ Below w.heap.size w w' := by
  obtain ⟨v, er, h1, h2, h3, h4⟩ := h.lv
  have h5 := h3
  obtain ⟨A, c, rfl, _⟩ := h5
  exact ⟨A, _, c, er, h1, h2, h3, h4⟩
theorem sumL_mem {s : List UInt8} : ∀ {l : List (List UInt8)}, s ∈ l → s.length ≤ sumL l
  | x :: t, h => by
    simp only [sumL]
    rcases List.mem_cons.1 h with rfl | h
    · omega
    · have := sumL_mem h; omega
theorem sumLL_mem {x : List (List UInt8)} : ∀ {ls : List (List (List UInt8))}, x ∈ ls → sumL x ≤ sumLL ls
  | y :: t, h => by
    simp only [sumLL]
    rcases List.mem_cons.1 h with rfl | h
    · omega
    · have := sumLL_mem h; omega
theorem light_small {ls : List (List (List UInt8))} (h : lightL ls = true) : ∀ x ∈ ls, x.length ≤ 130 ∧ ∀ s ∈ x, s.length ≤ 20000 := by
  simp only [lightL, Bool.and_eq_true, decide_eq_true_eq, List.all_eq_true] at h
  obtain ⟨⟨_, h2⟩, h3⟩ := h
  intro x hx
  refine ⟨by simpa using h2 x hx, fun s hs => ?_⟩
  have h4 := sumLL_mem hx
  have h5 := sumL_mem hs
  omega
theorem sml_cat {ls : List (List (List UInt8))} : Sml ((catL ls).getD []) := by
  cases h : catL ls with
  | none => exact Sml.of [] (by decide)
  | some r => exact Sml.of_big (cat_some ls [] r h).2
theorem sml_joined {ls : List (List (List UInt8))} : ∀ r, joinL ls = some r → bigL r = false := by
  have key : ∀ (t : List (List (List UInt8))) (acc r : List (List UInt8)), joinGo t acc = some r → bigL r = false := by
    intro t
    induction t with
    | nil => intro acc r h; rw [joinGo] at h; exact (bound_some h).2
    | cons x t ih =>
      intro acc r h
      rw [joinGo] at h
      split at h
      · cases h
      · exact ih _ _ h
  intro r h
  cases ls with
  | nil =>
    simp only [joinL, Option.some.injEq] at h
    subst h
    decide
  | cons x t => exact key t _ r h
theorem sml_join {ls : List (List (List UInt8))} : Sml ((joinL ls).getD []) := by
  cases h : joinL ls with
  | none => exact Sml.of [] (by decide)
  | some r => exact Sml.of_big (sml_joined r h)
theorem sml_three {x y z : List (List UInt8)} (h1 : Sml x) (h2 : Sml y) (h3 : Sml z) : ∀ u ∈ [x, y, z], Sml u := by
  intro u hu
  simp only [List.mem_cons, List.not_mem_nil, or_false] at hu
  rcases hu with rfl | rfl | rfl
  · exact h1
  · exact h2
  · exact h3
end Go.Proofs.YtckcpokfjofcaaaDoor
