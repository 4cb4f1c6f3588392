/- The store as lists: names and lengths stay bounded, whatever it is told. No condition. -/
import Derived.Test.YtcnkljbckpkgcaaStoF
import Derived.Test.YtcnkljbckpkgcaaStoO
set_option linter.unusedVariables false
set_option linter.unusedSimpArgs false
namespace Go.Proofs.Ytcnkljbckpkgcaa
open Go.RowKit Go.Maps Go.Sort

def KeyB (x : Sto) : Prop := ∀ p ∈ x.vars, p.1.length ≤ maxLen
theorem put_mem {α : Type} {n : Txt} {v : α} {M : List (Txt × α)} {p : Txt × α} (h : p ∈ putA n v M) : p.1 = n ∨ p ∈ M := by
  unfold putA loA hiA delA at h
  rw [List.mem_append, List.mem_cons] at h
  rcases h with h | rfl | h
  · exact .inr (List.mem_filter.1 ((List.takeWhile_prefix _).subset h)).1
  · exact .inl rfl
  · exact .inr (List.mem_filter.1 ((List.dropWhile_suffix _).subset h)).1
theorem keyB_set {x : Sto} (h : KeyB x) {n : Txt} (hn : n.length ≤ maxLen) (l : List Txt) : KeyB (setS x n l) := by
  unfold setS
  split
  · exact h
  · intro p hp
    rcases put_mem hp with he | hp
    · rw [he]; exact hn
    · exact h p hp
theorem newS_all (V : List (Txt × List Txt)) (h : ∀ p ∈ V, p.1.length ≤ maxLen ∧ p.2.length ≤ 1000000) : KeyB (newS V) ∧ SmS (newS V) ∧ (newS V).vars.length ≤ V.length := by
  refine snoc_ind2 (p := fun V => (∀ p ∈ V, p.1.length ≤ maxLen ∧ p.2.length ≤ 1000000) → KeyB (newS V) ∧ SmS (newS V) ∧ (newS V).vars.length ≤ V.length) (fun _ => ⟨fun p h => (by cases h), sm_new, Nat.le_refl _⟩) (fun l q ih h => ?_) V h
  obtain ⟨h1, h2, h3⟩ := ih fun p hp => h p (List.mem_append_left _ hp)
  have hq := h q (List.mem_append_right _ (List.mem_singleton.2 rfl))
  rw [newS_snoc, List.length_append, List.length_cons, List.length_nil]
  refine ⟨keyB_set h1 hq.1 _, sm_set h2 hq.2, ?_⟩
  unfold setS
  split
  · exact Nat.le_succ_of_le h3
  · exact Nat.le_trans (put_len _ _ _) (by simpa using h3)
theorem newS_len (V : List (Txt × List Txt)) : (newS V).vars.length ≤ V.length := by
  refine snoc_ind2 (p := fun V => (newS V).vars.length ≤ V.length) (Nat.le_refl _) (fun l q ih => ?_) V
  rw [newS_snoc, List.length_append, List.length_cons, List.length_nil]
  unfold setS
  split
  · exact Nat.le_succ_of_le ih
  · exact Nat.le_trans (put_len _ _ _) (by simpa using ih)
/-- What a store is after it was told something, its functions. -/
def doS (x : Sto) (d : DoD) : Sto := if d.kind = 1 then setS x d.name d.l else if d.kind = 2 then unsetS x d.name else if d.kind = 3 then swapS x d.name d.has d.l else if d.kind = 4 then ⟨x.vars, d.l⟩ else x
def doF (F : List (Txt × List Nd)) (d : DoD) : List (Txt × List Nd) := if d.kind = 1 ∨ d.kind = 2 ∨ d.kind = 3 ∨ d.kind = 4 then F else putA d.name d.p F
/-- All that is small in a store that was told k things. -/
structure SmK (x : Sto) (F : List (Txt × List Nd)) (k : Nat) : Prop where
  s : SmS x
  f : SmF F
  v : x.vars.length ≤ 100 + k
  g : F.length ≤ 100 + k
  k : KeyB x
  kf : ∀ p ∈ F, p.1.length ≤ maxLen
theorem keyB_unset {x : Sto} (h : KeyB x) (n : Txt) : KeyB (unsetS x n) := by
  unfold unsetS
  split
  · exact h
  · exact fun p hp => h p (List.mem_filter.1 hp).1
theorem vars_set (x : Sto) (n : Txt) (l : List Txt) : (setS x n l).vars.length ≤ x.vars.length + 1 := by
  unfold setS
  split
  · exact Nat.le_succ _
  · exact put_len _ _ _
theorem vars_unset (x : Sto) (n : Txt) : (unsetS x n).vars.length ≤ x.vars.length := by
  unfold unsetS
  split
  · exact Nat.le_refl _
  · exact del_len _ _
theorem smK_do {x : Sto} {F : List (Txt × List Nd)} {k : Nat} (h : SmK x F k) {d : DoD} (hd : Few1 d) : SmK (doS x d) (doF F d) (k + 1) := by
  have hl : d.l.length ≤ 1000000 := Nat.le_trans hd.1 (by decide)
  have hn : d.name.length ≤ maxLen := Nat.le_trans hd.2.2 (by unfold maxLen; decide)
  have hset : SmS (setS x d.name d.l) ∧ (setS x d.name d.l).vars.length ≤ 100 + (k + 1) ∧ KeyB (setS x d.name d.l) := ⟨sm_set h.s hl, Nat.le_trans (vars_set _ _ _) (by have := h.v; omega), keyB_set h.k hn _⟩
  have huns : SmS (unsetS x d.name) ∧ (unsetS x d.name).vars.length ≤ 100 + (k + 1) ∧ KeyB (unsetS x d.name) := ⟨sm_unset h.s, Nat.le_trans (vars_unset _ _) (by have := h.v; omega), keyB_unset h.k _⟩
  have hx : SmS (doS x d) ∧ (doS x d).vars.length ≤ 100 + (k + 1) ∧ KeyB (doS x d) := by
    unfold doS
    split
    · exact hset
    · split
      · exact huns
      · split
        · unfold swapS
          split
          · exact hset
          · exact huns
        · split
          · exact ⟨⟨hl, h.s.vars⟩, (by have := h.v; simp only; omega), h.k⟩
          · exact ⟨h.s, by have := h.v; omega, h.k⟩
  have hf : SmF (doF F d) ∧ (doF F d).length ≤ 100 + (k + 1) ∧ ∀ p ∈ doF F d, p.1.length ≤ maxLen := by
    unfold doF
    split
    · exact ⟨h.f, by have := h.g; omega, h.kf⟩
    · refine ⟨fun n l hl => ?_, Nat.le_trans (put_len _ _ _) (by have := h.g; omega), fun p hp => by
        rcases put_mem hp with he | hp
        · rw [he]; exact hn
        · exact h.kf p hp⟩
      rw [look_put] at hl
      split at hl
      · injection hl with hl
        rw [← hl]
        exact Nat.le_trans hd.2.1 (by decide)
      · exact h.f n l hl
  exact ⟨hx.1, hf.1, hx.2.1, hf.2.1, hx.2.2, hf.2.2⟩
theorem smK_mono {x : Sto} {F : List (Txt × List Nd)} {k m : Nat} (h : SmK x F k) (hm : k ≤ m) : SmK x F m := ⟨h.s, h.f, by have := h.v; omega, by have := h.g; omega, h.k, h.kf⟩
end Go.Proofs.Ytcnkljbckpkgcaa
