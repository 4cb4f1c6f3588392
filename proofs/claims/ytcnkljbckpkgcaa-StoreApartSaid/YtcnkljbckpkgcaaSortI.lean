/- Texts put in order one by one are the texts in order. No condition. -/
import Derived.Sort.KeysCollected
set_option linter.unusedVariables false
set_option linter.unusedSimpArgs false
namespace Go.Proofs.Ytcnkljbckpkgcaa
open Go.Sort

/-- One text put in its place. -/
def insB (x : List UInt8) : List (List UInt8) → List (List UInt8)
  | [] => [x]
  | y :: t => if y < x then y :: insB x t else x :: y :: t
theorem insB_perm (x : List UInt8) : ∀ l, (insB x l).Perm (x :: l)
  | [] => List.Perm.refl _
  | y :: t => by
    rw [insB]
    split
    · exact ((insB_perm x t).cons y).trans (List.Perm.swap x y t)
    · exact List.Perm.refl _
theorem insB_mem (x : List UInt8) (l : List (List UInt8)) (z : List UInt8) : z ∈ insB x l ↔ z = x ∨ z ∈ l := by
  rw [(insB_perm x l).mem_iff, List.mem_cons]
theorem insB_sorted (x : List UInt8) : ∀ l : List (List UInt8), l.Pairwise (fun a b => leB a b = true) → (insB x l).Pairwise (fun a b => leB a b = true)
  | [], _ => List.pairwise_singleton _ _
  | y :: t, h => by
    rw [insB]
    rw [List.pairwise_cons] at h
    split
    · rename_i hlt
      rw [List.pairwise_cons]
      refine ⟨fun z hz => ?_, insB_sorted x t h.2⟩
      rw [insB_mem] at hz
      rcases hz with rfl | hz
      · exact decide_eq_true (List.le_of_lt hlt)
      · exact h.1 z hz
    · rename_i hlt
      rw [List.pairwise_cons, List.pairwise_cons]
      have hxy : leB x y = true := decide_eq_true (List.not_lt.1 hlt)
      refine ⟨fun z hz => ?_, h.1, h.2⟩
      rcases List.mem_cons.1 hz with rfl | hz
      · exact hxy
      · have h1 := h.1 z hz
        simp only [leB, decide_eq_true_eq] at hxy h1 ⊢
        exact List.le_trans hxy h1
theorem sort_unique {l l' : List (List UInt8)} (h : l.Perm l') (hs : l.Pairwise (fun a b => leB a b = true)) (hs' : l'.Pairwise (fun a b => leB a b = true)) : l = l' :=
  List.Perm.eq_of_pairwise (le := fun a b => leB a b = true) (fun a b _ _ h1 h2 => by
    simp only [leB, decide_eq_true_eq] at h1 h2
    exact List.le_antisymm h1 h2) hs hs' h
theorem sort_sorted (l : List (List UInt8)) : (l.mergeSort leB).Pairwise (fun a b => leB a b = true) := by
  refine List.pairwise_mergeSort (fun a b c h1 h2 => ?_) (fun a b => ?_) l
  · simp only [leB, decide_eq_true_eq] at *
    exact List.le_trans h1 h2
  · simp only [leB, Bool.or_eq_true, decide_eq_true_eq]
    exact List.le_total a b
/-- Put in one by one, from an empty list. -/
def insAll (l : List (List UInt8)) : List (List UInt8) := l.foldl (fun acc x => insB x acc) []
theorem insAll_snoc (l : List (List UInt8)) (x : List UInt8) : insAll (l ++ [x]) = insB x (insAll l) := by
  unfold insAll
  rw [List.foldl_append]
  rfl
theorem foldl_ins : ∀ (l acc : List (List UInt8)), acc.Pairwise (fun a b => leB a b = true) → (l.foldl (fun acc x => insB x acc) acc).Pairwise (fun a b => leB a b = true) ∧ (l.foldl (fun acc x => insB x acc) acc).Perm (l ++ acc)
  | [], acc, h => ⟨h, List.Perm.refl _⟩
  | x :: l, acc, h => by
    obtain ⟨h1, h2⟩ := foldl_ins l (insB x acc) (insB_sorted x acc h)
    refine ⟨h1, h2.trans ?_⟩
    exact ((List.Perm.append_left l (insB_perm x acc))).trans (List.perm_middle)
theorem insAll_sort (l : List (List UInt8)) : insAll l = l.mergeSort leB := by
  obtain ⟨h1, h2⟩ := foldl_ins l [] List.Pairwise.nil
  rw [List.append_nil] at h2
  exact sort_unique (h2.trans (List.mergeSort_perm l leB).symm) h1 (sort_sorted l)
end Go.Proofs.Ytcnkljbckpkgcaa
