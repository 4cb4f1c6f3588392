/- The plain laws of PatternFiles: the files are names that match, each once, rising. No program in sight. -/
import Derived.Test.YtckcpokfjofcaaaDoorPatW7
set_option linter.unusedVariables false
set_option linter.unusedSimpArgs false
namespace Go.Proofs.YtckcpokfjofcaaaDoor

theorem le_tr {a b c : List UInt8} (h : a ≤ b) (h' : b ≤ c) : a ≤ c := List.le_trans h h'
theorem le_tot (a b : List UInt8) : a ≤ b ∨ b ≤ a := List.le_total a b
theorem lt_of_le_ne {a b : List UInt8} (h : a ≤ b) (hn : b ≠ a) : a < b := by
  rcases Classical.em (a < b) with h1 | h1
  · exact h1
  · exact absurd (List.le_antisymm (List.not_lt.1 h1) h) hn
theorem lt_of_le_lt {a b c : List UInt8} (h : a ≤ b) (h' : b < c) : a < c := List.lt_of_le_of_lt h h'

theorem compact_spec (d : Array (List UInt8)) (hs : ∀ i j, i < j → j < d.size → d[i]! ≤ d[j]!) : ∀ m, m ≤ d.size →
    (Lib.compactUpTo d m).Pairwise (· < ·) ∧ (∀ x, x ∈ Lib.compactUpTo d m ↔ ∃ j, j < m ∧ d[j]! = x)
  | 0, _ => by simp [Lib.compactUpTo]
  | m + 1, hm => by
    obtain ⟨h1, h2⟩ := compact_spec d hs m (by omega)
    rw [Lib.compactUpTo_succ]
    by_cases hk : Lib.keeps d m = true
    · rw [if_pos hk]
      refine ⟨List.pairwise_append.2 ⟨h1, List.pairwise_singleton _ _, fun a ha b hb => ?_⟩, fun x => ?_⟩
      · rw [List.mem_singleton] at hb
        subst hb
        obtain ⟨j, hj, rfl⟩ := (h2 a).1 ha
        have hne : d[m]! ≠ d[m - 1]! := by
          have : m = 0 ∨ d[m]! ≠ d[m - 1]! := by simpa [Lib.keeps] using hk
          rcases this with h0 | h0
          · omega
          · exact h0
        have hlt : d[m - 1]! < d[m]! := lt_of_le_ne (hs (m - 1) m (by omega) (by omega)) hne
        rcases Nat.lt_or_ge j (m - 1) with hjm | hjm
        · exact lt_of_le_lt (hs j (m - 1) hjm (by omega)) hlt
        · have : j = m - 1 := by omega
          subst this; exact hlt
      · rw [List.mem_append, h2, List.mem_singleton]
        constructor
        · rintro (⟨j, hj, rfl⟩ | rfl)
          · exact ⟨j, by omega, rfl⟩
          · exact ⟨m, by omega, rfl⟩
        · rintro ⟨j, hj, rfl⟩
          rcases Nat.lt_or_ge j m with h | h
          · exact .inl ⟨j, h, rfl⟩
          · have : j = m := by omega
            subst this; exact .inr rfl
    · rw [if_neg hk, List.append_nil]
      refine ⟨h1, fun x => ?_⟩
      have hno : m ≠ 0 ∧ d[m]! = d[m - 1]! := by simpa [Lib.keeps] using hk
      rw [h2]
      constructor
      · rintro ⟨j, hj, rfl⟩; exact ⟨j, by omega, rfl⟩
      · rintro ⟨j, hj, rfl⟩
        rcases Nat.lt_or_ge j m with h | h
        · exact ⟨j, h, rfl⟩
        · have : j = m := by omega
          subst this; exact ⟨j - 1, by omega, hno.2.symm⟩

theorem sortL_mem (l : List (List UInt8)) (x : List UInt8) : x ∈ sortL l ↔ x ∈ l := List.mem_mergeSort
theorem sortL_sorted (l : List (List UInt8)) : (sortL l).Pairwise fun x y => x ≤ y := by
  have h := List.pairwise_mergeSort (le := fun x y : List UInt8 => decide (x ≤ y)) (fun a b c h1 h2 => by simp only [decide_eq_true_eq] at *; exact le_tr h1 h2) (fun a b => by
    simp only [Bool.or_eq_true, decide_eq_true_eq]; exact le_tot a b) l
  exact h.imp fun h => by simpa using h

theorem compact_sort (l : List (List UInt8)) : (Lib.compact (sortL l)).Pairwise (· < ·) ∧ ∀ x, x ∈ Lib.compact (sortL l) ↔ x ∈ l := by
  have hs : ∀ i j, i < j → j < (sortL l).toArray.size → (sortL l).toArray[i]! ≤ (sortL l).toArray[j]! := by
    intro i j hij hj
    have hj' : j < (sortL l).length := by simpa using hj
    have := List.pairwise_iff_getElem.1 (sortL_sorted l) i j (by omega) hj' hij
    simpa [getElem!_pos, hj', show i < (sortL l).length by omega] using this
  obtain ⟨h1, h2⟩ := compact_spec (sortL l).toArray hs (sortL l).length (by simp)
  refine ⟨h1, fun x => ?_⟩
  rw [← sortL_mem l x]
  show x ∈ Lib.compactUpTo _ _ ↔ _
  rw [h2, List.mem_iff_getElem]
  constructor
  · rintro ⟨j, hj, rfl⟩; exact ⟨j, hj, by simp [getElem!_pos, hj]⟩
  · rintro ⟨j, hj, rfl⟩; exact ⟨j, hj, by simp [getElem!_pos, hj]⟩

theorem files_spec (p : List UInt8) (l : List (List UInt8)) : (filesL p l).Pairwise (· < ·) ∧ ∀ x, x ∈ filesL p l ↔ x ∈ l ∧ isFile p x = true := by
  obtain ⟨h1, h2⟩ := compact_sort (l.filter (isFile p))
  exact ⟨h1, fun x => by rw [filesL, h2, List.mem_filter]⟩
theorem files_len (p : List UInt8) (l : List (List UInt8)) : (filesL p l).length ≤ l.length := by
  have h := Lib.compact_length_le (sortL (l.filter (isFile p)))
  rw [sortL_len] at h
  exact Nat.le_trans h (List.length_filter_le _ _)
theorem dotB_nil : dotB [] = false := rfl
theorem dotB_cons (c : UInt8) (t : List UInt8) : dotB (c :: t) = (c == 46) := by
  show ((46 == c) && true) = (c == 46)
  rw [Bool.and_true]
  rw [Bool.eq_iff_iff, beq_iff_eq, beq_iff_eq]
  exact ⟨Eq.symm, Eq.symm⟩
end Go.Proofs.YtckcpokfjofcaaaDoor
