/- Texts put in their places one by one, each once, are rising: the document's sorting, with no program in sight. No condition. -/
import Derived.Test.YtlhpflilpdceiaaGreatDoorJA
set_option linter.unusedVariables false
set_option linter.unusedSimpArgs false
namespace Go.Proofs.YtlhpflilpdceiaaGreatDoor

/-- A text put in its place among rising ones, if it is not there. -/
def insU (x : List UInt8) : List (List UInt8) → List (List UInt8)
  | [] => [x]
  | y :: t => if y < x then y :: insU x t else if y = x then y :: t else x :: y :: t
def sortedS (l : List (List UInt8)) : List (List UInt8) := l.foldl (fun a x => insU x a) []
theorem insU_mem (x z : List UInt8) : ∀ l, z ∈ insU x l ↔ z = x ∨ z ∈ l
  | [] => by simp [insU]
  | y :: t => by
    rw [insU]
    split
    · rw [List.mem_cons, insU_mem x z t, List.mem_cons]
      constructor
      · rintro (h | h | h)
        · exact .inr (.inl h)
        · exact .inl h
        · exact .inr (.inr h)
      · rintro (h | h | h)
        · exact .inr (.inl h)
        · exact .inl h
        · exact .inr (.inr h)
    · split
      · rename_i h
        subst h
        simp
      · simp
theorem lt_total (a b : List UInt8) (h1 : ¬ a < b) (h2 : a ≠ b) : b < a := by
  have h3 : b ≤ a := List.not_lt.1 h1
  rcases Decidable.em (b < a) with h | h
  · exact h
  · exact absurd (List.le_antisymm (List.not_lt.1 h) h3) h2
theorem insU_sorted (x : List UInt8) : ∀ l, l.Pairwise (· < ·) → (insU x l).Pairwise (· < ·)
  | [], _ => by simp [insU]
  | y :: t, h => by
    obtain ⟨h1, h2⟩ := List.pairwise_cons.1 h
    rw [insU]
    split
    · rename_i hyx
      refine List.pairwise_cons.2 ⟨fun z hz => ?_, insU_sorted x t h2⟩
      rcases (insU_mem x z t).1 hz with rfl | hz
      · exact hyx
      · exact h1 z hz
    · split
      · exact h
      · rename_i h3 h4
        have hxy := lt_total y x h3 h4
        refine List.pairwise_cons.2 ⟨fun z hz => ?_, h⟩
        rcases List.mem_cons.1 hz with rfl | hz
        · exact hxy
        · exact List.lt_trans hxy (h1 z hz)
theorem sortedS_fold : ∀ (l a : List (List UInt8)), a.Pairwise (· < ·) → (l.foldl (fun a x => insU x a) a).Pairwise (· < ·) ∧ ∀ z, z ∈ l.foldl (fun a x => insU x a) a ↔ z ∈ l ∨ z ∈ a
  | [], a, h => ⟨h, fun z => by simp⟩
  | x :: l, a, h => by
    obtain ⟨h1, h2⟩ := sortedS_fold l (insU x a) (insU_sorted x a h)
    refine ⟨h1, fun z => ?_⟩
    rw [List.foldl_cons, h2, insU_mem, List.mem_cons]
    constructor
    · rintro (h | h | h)
      · exact .inl (.inr h)
      · exact .inl (.inl h)
      · exact .inr h
    · rintro ((h | h) | h)
      · exact .inr (.inl h)
      · exact .inl h
      · exact .inr (.inr h)
/-- Two rising lists of the same texts are one. -/
theorem rising_uniq : ∀ (a b : List (List UInt8)), a.Pairwise (· < ·) → b.Pairwise (· < ·) → (∀ z, z ∈ a ↔ z ∈ b) → a = b
  | [], [], _, _, _ => rfl
  | [], y :: b, _, _, h => absurd ((h y).2 (by simp)) (by simp)
  | x :: a, [], _, _, h => absurd ((h x).1 (by simp)) (by simp)
  | x :: a, y :: b, ha, hb, h => by
    obtain ⟨a1, a2⟩ := List.pairwise_cons.1 ha
    obtain ⟨b1, b2⟩ := List.pairwise_cons.1 hb
    have hxy : x = y := by
      rcases List.mem_cons.1 ((h x).1 (by simp)) with e | e
      · exact e
      · rcases List.mem_cons.1 ((h y).2 (by simp)) with e2 | e2
        · exact e2.symm
        · exact absurd (List.lt_trans (b1 x e) (a1 y e2)) (List.lt_irrefl _)
    subst hxy
    rw [rising_uniq a b a2 b2 fun z => ?_]
    constructor
    · intro hz
      rcases List.mem_cons.1 ((h z).1 (by simp [hz])) with e | e
      · subst e; exact absurd (a1 z hz) (List.lt_irrefl _)
      · exact e
    · intro hz
      rcases List.mem_cons.1 ((h z).2 (by simp [hz])) with e | e
      · subst e; exact absurd (b1 z hz) (List.lt_irrefl _)
      · exact e
theorem sortedS_eq {l C : List (List UInt8)} (h1 : C.Pairwise (· < ·)) (h2 : ∀ x, x ∈ C ↔ x ∈ l) : sortedS l = C := by
  obtain ⟨h3, h4⟩ := sortedS_fold l [] List.Pairwise.nil
  exact rising_uniq _ _ h3 h1 fun z => by
    rw [h2]
    have := h4 z
    simpa [sortedS] using this
end Go.Proofs.YtlhpflilpdceiaaGreatDoor
