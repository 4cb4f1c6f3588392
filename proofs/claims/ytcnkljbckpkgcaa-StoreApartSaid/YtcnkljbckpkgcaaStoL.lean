/- Lists of names, rising, each with something: put, taken away, looked up (chapter 7), with no program in sight. No condition. -/
import Derived.Test.YtcnkljbckpkgcaaSortI
set_option linter.unusedVariables false
set_option linter.unusedSimpArgs false
namespace Go.Proofs.Ytcnkljbckpkgcaa
open Go.Sort

theorem mem_tw2 {α : Type} {p : α → Bool} : ∀ {l : List α} {x : α}, x ∈ l.takeWhile p → p x = true
  | [], x, h => by simp at h
  | y :: l, x, h => by
    rw [List.takeWhile_cons] at h
    split at h
    · rename_i hy
      rcases List.mem_cons.1 h with rfl | h
      · exact hy
      · exact mem_tw2 h
    · cases h
section
variable {α : Type}
def lookA : List (List UInt8 × α) → List UInt8 → Option α
  | [], _ => none
  | p :: M, s => if p.1 = s then some p.2 else lookA M s
def delA (s : List UInt8) (M : List (List UInt8 × α)) : List (List UInt8 × α) := M.filter fun p => p.1 != s
def loA (s : List UInt8) (M : List (List UInt8 × α)) : List (List UInt8 × α) := M.takeWhile fun p => decide (p.1 < s)
def hiA (s : List UInt8) (M : List (List UInt8 × α)) : List (List UInt8 × α) := M.dropWhile fun p => decide (p.1 < s)
def putA (s : List UInt8) (v : α) (M : List (List UInt8 × α)) : List (List UInt8 × α) := loA s (delA s M) ++ (s, v) :: hiA s (delA s M)
def SortA (M : List (List UInt8 × α)) : Prop := M.Pairwise fun p q => p.1 < q.1
theorem look_append (s : List UInt8) : ∀ A B : List (List UInt8 × α), lookA (A ++ B) s = (lookA A s).or (lookA B s)
  | [], B => rfl
  | p :: A, B => by
    rw [List.cons_append, lookA, lookA, look_append s A B]
    split <;> rfl
theorem look_del (s x : List UInt8) : ∀ M : List (List UInt8 × α), lookA (delA s M) x = if x = s then none else lookA M x
  | [] => by simp [delA, lookA]
  | p :: M => by
    have ih := look_del s x M
    unfold delA at ih ⊢
    rw [List.filter_cons]
    by_cases hp : p.1 = s
    · rw [if_neg (by simp [hp]), ih, lookA]
      by_cases hx : x = s
      · rw [if_pos hx, if_pos hx]
      · rw [if_neg hx, if_neg hx, if_neg (by rw [hp]; exact fun h => hx h.symm)]
    · rw [if_pos (by simp [hp]), lookA, lookA, ih]
      by_cases hx : x = s
      · rw [if_neg (by rw [hx]; exact hp), if_pos hx, if_pos hx]
      · rw [if_neg hx, if_neg hx]
theorem look_lohi (s x : List UInt8) (M : List (List UInt8 × α)) : (lookA (loA s M) x).or (lookA (hiA s M) x) = lookA M x := by
  rw [← look_append]
  unfold loA hiA
  rw [List.takeWhile_append_dropWhile]
theorem look_put (s : List UInt8) (v : α) (x : List UInt8) (M : List (List UInt8 × α)) : lookA (putA s v M) x = if x = s then some v else lookA M x := by
  have h1 := look_lohi s x (delA s M)
  rw [look_del] at h1
  unfold putA
  rw [look_append, lookA]
  by_cases hx : x = s
  · rw [if_pos hx, if_pos hx.symm]
    rw [if_pos hx] at h1
    cases h2 : lookA (loA s (delA s M)) x with
    | none => rfl
    | some u => rw [h2] at h1; cases h1
  · rw [if_neg hx, if_neg (fun h => hx h.symm)]
    rw [if_neg hx] at h1
    exact h1
theorem sort_del {s : List UInt8} {M : List (List UInt8 × α)} (h : SortA M) : SortA (delA s M) := List.Pairwise.filter _ h
theorem lo_lt {s : List UInt8} {M : List (List UInt8 × α)} {p : List UInt8 × α} (h : p ∈ loA s M) : p.1 < s := by
  have := mem_tw2 h
  simpa using this
theorem hi_ge {s : List UInt8} : ∀ {M : List (List UInt8 × α)}, SortA M → (∀ p ∈ M, p.1 ≠ s) → ∀ p ∈ hiA s M, s < p.1
  | [], _, _, p, h => by simp [hiA] at h
  | q :: M, hs, hn, p, h => by
    unfold SortA at hs
    rw [List.pairwise_cons] at hs
    unfold hiA at h
    rw [List.dropWhile_cons] at h
    by_cases hq : q.1 < s
    · rw [if_pos (by simpa using hq)] at h
      exact hi_ge hs.2 (fun p hp => hn p (List.mem_cons_of_mem _ hp)) p h
    · rw [if_neg (by simpa using hq)] at h
      have hq2 : s < q.1 := by
        rcases List.le_iff_lt_or_eq.1 (List.not_lt.1 hq) with h1 | h1
        · exact h1
        · exact absurd h1.symm (hn q (List.mem_cons_self ..))
      rcases List.mem_cons.1 h with rfl | h
      · exact hq2
      · exact List.lt_trans hq2 (hs.1 p h)
theorem sort_put {s : List UInt8} {v : α} {M : List (List UInt8 × α)} (h : SortA M) : SortA (putA s v M) := by
  have hd := sort_del (s := s) h
  have hne : ∀ p ∈ delA s M, p.1 ≠ s := fun p hp => by
    unfold delA at hp
    rw [List.mem_filter] at hp
    simpa using hp.2
  have hhi := hi_ge hd hne
  unfold putA SortA
  rw [List.pairwise_append, List.pairwise_cons]
  refine ⟨List.Pairwise.sublist (List.takeWhile_prefix _).sublist hd, ⟨fun p hp => hhi p hp, List.Pairwise.sublist (List.dropWhile_suffix _).sublist hd⟩, fun p hp q hq => ?_⟩
  have h1 := lo_lt hp
  rcases List.mem_cons.1 hq with rfl | hq
  · exact h1
  · exact List.lt_trans h1 (hhi q hq)
theorem look_small {s : List UInt8} : ∀ {M : List (List UInt8 × α)}, (∀ p ∈ M, s < p.1) → lookA M s = none
  | [], _ => rfl
  | p :: M, h => by
    rw [lookA, if_neg (fun e => by have := h p (List.mem_cons_self ..); rw [e] at this; exact List.lt_irrefl _ this)]
    exact look_small fun q hq => h q (List.mem_cons_of_mem _ hq)
theorem look_head (p : List UInt8 × α) (M : List (List UInt8 × α)) : lookA (p :: M) p.1 = some p.2 := by rw [lookA, if_pos rfl]
theorem sortA_ext : ∀ {M M' : List (List UInt8 × α)}, SortA M → SortA M' → (∀ s, lookA M s = lookA M' s) → M = M'
  | [], [], _, _, _ => rfl
  | [], p :: M', _, _, h => by have := h p.1; rw [look_head] at this; cases this
  | p :: M, [], _, _, h => by have := h p.1; rw [look_head] at this; cases this
  | p :: M, q :: M', h1, h2, h => by
    unfold SortA at h1 h2
    rw [List.pairwise_cons] at h1 h2
    have hpq : p.1 = q.1 := by
      rcases Classical.em (p.1 < q.1) with hl | hl
      · have h3 := h p.1
        rw [look_head, look_small (M := q :: M')] at h3
        · cases h3
        · intro r hr
          rcases List.mem_cons.1 hr with rfl | hr
          · exact hl
          · exact List.lt_trans hl (h2.1 r hr)
      · rcases List.le_iff_lt_or_eq.1 (List.not_lt.1 hl) with hl | hl
        · have h3 := h q.1
          rw [look_head, look_small (M := p :: M)] at h3
          · cases h3
          · intro r hr
            rcases List.mem_cons.1 hr with rfl | hr
            · exact hl
            · exact List.lt_trans hl (h1.1 r hr)
        · exact hl.symm
    have hv : p.2 = q.2 := by
      have h3 := h p.1
      rw [look_head, hpq, look_head] at h3
      injection h3
    have ht : M = M' := sortA_ext h1.2 h2.2 fun s => by
      by_cases hs : s = p.1
      · rw [hs, look_small h1.1]
        rw [hpq, look_small h2.1]
      · have h3 := h s
        rw [lookA, lookA, if_neg (fun e => hs e.symm), if_neg (fun e => hs (by rw [hpq]; exact e.symm))] at h3
        exact h3
    have hp : p = q := Prod.ext hpq hv
    rw [hp, ht]
theorem key_mem : ∀ (M : List (List UInt8 × α)) (s : List UInt8), s ∈ M.map Prod.fst ↔ (lookA M s).isSome = true
  | [], s => by simp [lookA]
  | p :: M, s => by
    rw [List.map_cons, List.mem_cons, lookA, key_mem M s]
    by_cases h : p.1 = s
    · rw [if_pos h]; simp [h]
    · rw [if_neg h]
      exact ⟨fun h1 => h1.resolve_left (fun e => h e.symm), .inr⟩
theorem keys_sorted {M : List (List UInt8 × α)} (h : SortA M) : (M.map Prod.fst).Pairwise (fun a b => leB a b = true) :=
  List.pairwise_map.2 (h.imp fun h => decide_eq_true (List.le_of_lt h))
theorem keys_nodup {M : List (List UInt8 × α)} (h : SortA M) : (M.map Prod.fst).Nodup :=
  List.pairwise_map.2 (List.Pairwise.imp (fun {p q} h e => by rw [e] at h; exact List.lt_irrefl _ h) h)
theorem keys_sort {M : List (List UInt8 × α)} (h : SortA M) {ss : List (List UInt8)} (hn : ss.Nodup) (hm : ∀ s, s ∈ ss ↔ (lookA M s).isSome = true) : ss.mergeSort leB = M.map Prod.fst := by
  refine sort_unique ((List.mergeSort_perm ss leB).trans ?_) (sort_sorted ss) (keys_sorted h)
  exact (List.perm_ext_iff_of_nodup hn (keys_nodup h)).2 fun a => by rw [hm, key_mem]
theorem look_mem : ∀ {M : List (List UInt8 × α)} {s : List UInt8} {v : α}, lookA M s = some v → (s, v) ∈ M
  | [], s, v, h => by cases h
  | p :: M, s, v, h => by
    rw [lookA] at h
    split at h
    · rename_i hp
      injection h with h
      subst hp h
      exact List.mem_cons_self ..
    · exact List.mem_cons_of_mem _ (look_mem h)
theorem look_of_mem : ∀ {M : List (List UInt8 × α)}, SortA M → ∀ {p : List UInt8 × α}, p ∈ M → lookA M p.1 = some p.2
  | [], _, p, h => by cases h
  | q :: M, hs, p, h => by
    unfold SortA at hs
    rw [List.pairwise_cons] at hs
    rcases List.mem_cons.1 h with rfl | h
    · exact look_head _ _
    · have h1 := hs.1 p h
      rw [lookA, if_neg (fun e => by rw [e] at h1; exact List.lt_irrefl _ h1)]
      exact look_of_mem hs.2 h
theorem del_len (s : List UInt8) (M : List (List UInt8 × α)) : (delA s M).length ≤ M.length := List.length_filter_le ..
theorem put_len (s : List UInt8) (v : α) (M : List (List UInt8 × α)) : (putA s v M).length ≤ M.length + 1 := by
  have h1 := del_len s M
  have h2 : (loA s (delA s M)).length + (hiA s (delA s M)).length = (delA s M).length := by
    unfold loA hiA
    rw [← List.length_append, List.takeWhile_append_dropWhile]
  unfold putA
  rw [List.length_append, List.length_cons]
  omega
end
end Go.Proofs.Ytcnkljbckpkgcaa
