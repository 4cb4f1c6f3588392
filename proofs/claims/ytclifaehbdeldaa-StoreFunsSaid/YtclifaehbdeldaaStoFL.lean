/- What a store's functions are after the names of a list have been put, each with a list of its own (chapter 7); with no program in sight. No condition. -/
import Derived.Test.YtclifaehbdeldaaStoW2
set_option linter.unusedVariables false
set_option linter.unusedSimpArgs false
namespace Go.Proofs.Ytclifaehbdeldaa

/-- The node that a round lays behind the list. -/
def nopN (k : Nat) : Nd := ⟨20, k, 0, 1, []⟩
def fsF (l : List Nd) (ns : List Txt) : Nat → List (Txt × List Nd)
  | 0 => []
  | k + 1 => putA (ns.getD k []) (l ++ [nopN k]) (fsF l ns k)
def lastI (ns : List Txt) (s : Txt) : Nat → Option Nat
  | 0 => none
  | k + 1 => if s = ns.getD k [] then some k else lastI ns s k
def lastV : Option Nat → Int
  | none => -1
  | some j => j
theorem fs_look (l : List Nd) (ns : List Txt) (s : Txt) : ∀ k, lookA (fsF l ns k) s = (lastI ns s k).map fun j => l ++ [nopN j]
  | 0 => rfl
  | k + 1 => by
    rw [fsF, look_put, lastI, fs_look l ns s k]
    split <;> rfl
theorem fs_sort (l : List Nd) (ns : List Txt) : ∀ k, SortA (fsF l ns k)
  | 0 => List.Pairwise.nil
  | k + 1 => sort_put (fs_sort l ns k)
theorem fs_len (l : List Nd) (ns : List Txt) : ∀ k, (fsF l ns k).length ≤ k
  | 0 => Nat.le_refl _
  | k + 1 => Nat.le_trans (put_len _ _ _) (Nat.succ_le_succ (fs_len l ns k))
theorem fs_sm {l : List Nd} (hl : l.length ≤ 10) (ns : List Txt) (k : Nat) : SmF (fsF l ns k) := fun n L h => by
  rw [fs_look] at h
  cases hc : lastI ns n k with
  | none => rw [hc] at h; cases h
  | some j =>
    rw [hc] at h
    injection h with h
    subst h
    rw [List.length_append, List.length_cons, List.length_nil]
    omega
theorem last_some (ns : List Txt) : ∀ n k, k < n → (lastI ns (ns.getD k []) n).isSome = true
  | 0, k, h => absurd h (Nat.not_lt_zero _)
  | n + 1, k, h => by
    rw [lastI]
    split
    · rfl
    · rename_i hne
      rcases Nat.lt_succ_iff_lt_or_eq.1 h with h | rfl
      · exact last_some ns n k h
      · exact absurd rfl hne
theorem last_at (ns : List Txt) (s : Txt) : ∀ n j, lastI ns s n = some j → j < n ∧ s = ns.getD j []
  | 0, j, h => by cases h
  | n + 1, j, h => by
    rw [lastI] at h
    split at h
    · rename_i he
      injection h with h
      subst h
      exact ⟨Nat.lt_succ_self _, he⟩
    · exact ⟨Nat.lt_succ_of_lt (last_at ns s n j h).1, (last_at ns s n j h).2⟩
/-- The name at a place of the list is told. -/
theorem fs_has (l : List Nd) (ns : List Txt) {n k : Nat} (h : k < n) : (getF (fsF l ns n) (ns.getD k [])).2 = true := by
  show (lookA (fsF l ns n) (ns.getD k [])).isSome = true
  rw [fs_look, Option.isSome_map]
  exact last_some ns n k h
/-- Each name that is told has a place, the last one, and what was laid there is told. -/
theorem fs_at (l : List Nd) (ns : List Txt) (n : Nat) {s : Txt} (h : s ∈ (fsF l ns n).map Prod.fst) : ∃ j, lastI ns s n = some j ∧ getF (fsF l ns n) s = (l ++ [nopN j], true) := by
  rw [key_mem, fs_look, Option.isSome_map] at h
  cases hc : lastI ns s n with
  | none => rw [hc] at h; cases h
  | some j => exact ⟨j, rfl, by unfold getF; rw [fs_look, hc]; rfl⟩
theorem fs_rise (l : List Nd) (ns : List Txt) (n i : Nat) (h : i + 1 < ((fsF l ns n).map Prod.fst).length) : ((fsF l ns n).map Prod.fst)[i] < ((fsF l ns n).map Prod.fst)[i + 1] := by
  have h1 := fs_sort l ns n
  have h2 : ((fsF l ns n).map Prod.fst).Pairwise (· < ·) := List.pairwise_map.2 h1
  exact List.pairwise_iff_getElem.1 h2 i (i + 1) (by omega) h (Nat.lt_succ_self i)
end Go.Proofs.Ytclifaehbdeldaa
