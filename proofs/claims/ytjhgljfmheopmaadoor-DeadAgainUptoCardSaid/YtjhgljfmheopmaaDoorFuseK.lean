/- What chapter 20's statement rests on, on trees, with no program in sight. No condition. -/
import Derived.Test.YtjhgljfmheopmaaDoorFuseM
set_option linter.unusedVariables false
set_option linter.unusedSimpArgs false
namespace Go.Proofs.YtjhgljfmheopmaaDoor

theorem okAll_congr {f g : Nat → Tr → Bool} : ∀ (ts : List Tr) (k : Nat), (∀ t ∈ ts, ∀ k, f k t = true → g k t = true) → okAll f k ts = true → okAll g k ts = true
  | [], _, _, _ => rfl
  | t :: ts, k, h, ho => by
    rw [okAll, Bool.and_eq_true] at ho
    rw [okAll, h t (by simp) k ho.1, okAll_congr ts (k + 1) (fun u hu => h u (by simp [hu])) ho.2]
    rfl
theorem okT_mono : ∀ (d : Nat) (w : Bool) (t : Tr), okT d w t = true → okT (d + 1) w t = true
  | 0, w, t, h => by rw [okT] at h; cases h
  | d + 1, w, .mk kd n s ks, h => by
    rw [okT] at h ⊢
    simp only [Bool.and_eq_true] at h ⊢
    exact ⟨h.1, okAll_congr ks 0 (fun t _ k h => okT_mono d _ t h) h.2⟩
/-- In a place that asks the same of each: every one. -/
theorem okAll_forall {f : Tr → Bool} : ∀ (ts : List Tr) (k : Nat), okAll (fun _ t => f t) k ts = true ↔ ∀ t ∈ ts, f t = true
  | [], k => by simp [okAll]
  | t :: ts, k => by rw [okAll, Bool.and_eq_true, okAll_forall ts (k + 1)]; simp
theorem fuseTs_other {kd : Int} (h : (kd == 32) = false) : ∀ ks : List Tr, fuseTs kd ks = ks.map fuseT
  | [] => by rw [fuseTs_nil]; rfl
  | t :: ts => by rw [fuseTs_cons, h, fuseTs_other h ts]; rfl
theorem okAll_map {f : Nat → Tr → Bool} {g : Tr → Tr} : ∀ (ts : List Tr) (k : Nat), (∀ t ∈ ts, ∀ k, f k t = true → f k (g t) = true) → okAll f k ts = true → okAll f k (ts.map g) = true
  | [], _, _, _ => rfl
  | t :: ts, k, h, ho => by
    rw [okAll, Bool.and_eq_true] at ho
    rw [List.map_cons, okAll, h t (by simp) k ho.1, okAll_map ts (k + 1) (fun u hu => h u (by simp [hu])) ho.2]
    rfl
theorem pipe_kids {d : Nat} {w : Bool} {t : Tr} (h : okT (d + 1) w t = true) (hk : t.kind = 32) : 2 ≤ t.kids.length ∧ ∀ u ∈ t.kids, okT d false u = true := by
  cases t with
  | mk kd n s ks =>
    simp only [Tr.kind] at hk
    subst hk
    rw [okT] at h
    simp only [Bool.and_eq_true] at h
    have h2 : okAll (fun _ t => okT d false t) 0 ks = true := h.2
    refine ⟨?_, (okAll_forall ks 0).1 h2⟩
    have h3 := h.1.2
    simp [childrenB] at h3
    simp only [Tr.kids]
    omega
/-- A fused program may be, where the program may. -/
theorem fuse_ok : ∀ (d : Nat) (w : Bool) (t : Tr), okT d w t = true → okT d w (fuseT t) = true
  | 0, w, t, h => by rw [okT] at h; cases h
  | d + 1, w, .mk kd n s ks, h => by
    have ih := fuse_ok d
    rw [fuseT_mk]
    cases hk : (kd == 32)
    · rw [fuseTs_other hk]
      rw [okT] at h ⊢
      simp only [Bool.and_eq_true, List.length_map] at h ⊢
      exact ⟨h.1, okAll_map ks 0 (fun t _ k h => ih _ t h) h.2⟩
    · obtain rfl : kd = 32 := by simpa using hk
      have hpk := pipe_kids h rfl
      simp only [Tr.kids] at hpk
      have hmem : ∀ (ks : List Tr), (∀ u ∈ ks, okT d false u = true) → ∀ u ∈ fuseTs 32 ks, okT d false u = true := by
        intro ks
        induction ks with
        | nil => intro _ u hu; rw [fuseTs_nil] at hu; cases hu
        | cons t ts iht =>
          intro hks u hu
          rw [fuseTs_cons, List.mem_append] at hu
          rcases hu with hu | hu
          · have h1 := ih false t (hks t (by simp))
            split at hu
            · rename_i hc
              simp only [Bool.and_eq_true, beq_iff_eq] at hc
              cases d with
              | zero => rw [okT] at h1; cases h1
              | succ d => exact okT_mono d false u ((pipe_kids h1 hc.2).2 u hu)
            · rw [List.mem_singleton.1 hu]; exact h1
          · exact iht (fun u hu => hks u (by simp [hu])) u hu
      have hlen : ∀ (ks : List Tr), (∀ u ∈ ks, okT d false u = true) → ks.length ≤ (fuseTs 32 ks).length := by
        intro ks
        induction ks with
        | nil => intro _; simp
        | cons t ts iht =>
          intro hks
          have h2 := iht (fun u hu => hks u (by simp [hu]))
          have h1 := ih false t (hks t (by simp))
          rw [fuseTs_cons, List.length_append, List.length_cons]
          split
          · rename_i hc
            simp only [Bool.and_eq_true, beq_iff_eq] at hc
            cases d with
            | zero => rw [okT] at h1; cases h1
            | succ d => have := (pipe_kids h1 hc.2).1; omega
          · simp; omega
      have h5 := hlen ks hpk.2
      have h6 := hmem ks hpk.2
      rw [okT] at h ⊢
      simp only [Bool.and_eq_true] at h ⊢
      refine ⟨⟨h.1.1, ?_⟩, (okAll_forall _ 0).2 h6⟩
      simp [childrenB]
      omega
mutual
def flatP : Tr → Bool
  | .mk kd _ _ ks => flatPs kd ks
def flatPs : Int → List Tr → Bool
  | _, [] => true
  | kd, t :: ts => !(kd == 32 && t.kind == 32) && flatP t && flatPs kd ts
end
theorem flatPs_cons (kd : Int) (t : Tr) (ts : List Tr) : flatPs kd (t :: ts) = (!(kd == 32 && t.kind == 32) && flatP t && flatPs kd ts) := by rw [flatPs]
theorem flatP_mk (kd n : Int) (s : List UInt8) (ks : List Tr) : flatP (.mk kd n s ks) = flatPs kd ks := by rw [flatP]
theorem flatPs_all (kd : Int) : ∀ ks : List Tr, flatPs kd ks = true ↔ ∀ t ∈ ks, (kd == 32 && t.kind == 32) = false ∧ flatP t = true
  | [] => by rw [flatPs]; simp
  | t :: ts => by
    rw [flatPs_cons, Bool.and_eq_true, Bool.and_eq_true, flatPs_all kd ts]
    simp only [List.mem_cons, forall_eq_or_imp, Bool.not_eq_true']
theorem flatP_kids {t : Tr} (h : flatP t = true) : ∀ u ∈ t.kids, (t.kind == 32 && u.kind == 32) = false ∧ flatP u = true := by
  cases t with
  | mk kd n s ks => rw [flatP_mk] at h; exact (flatPs_all kd ks).1 h
mutual
theorem fuse_flat : ∀ t : Tr, flatP (fuseT t) = true
  | .mk kd n s ks => by rw [fuseT_mk, flatP_mk]; exact fuses_flat kd ks
theorem fuses_flat : ∀ (kd : Int) (ks : List Tr), flatPs kd (fuseTs kd ks) = true
  | kd, [] => by rw [fuseTs_nil, flatPs]
  | kd, t :: ts => by
    have h1 := fuse_flat t
    have h2 := fuses_flat kd ts
    rw [fuseTs_cons]
    rw [flatPs_all] at h2 ⊢
    intro u hu
    rcases List.mem_append.1 hu with hu | hu
    · split at hu
      · rename_i hc
        simp only [Bool.and_eq_true, beq_iff_eq] at hc
        have h3 := flatP_kids h1 u hu
        rw [hc.2] at h3
        rw [hc.1]
        exact h3
      · rename_i hc
        rw [List.mem_singleton.1 hu]
        exact ⟨by simpa using hc, h1⟩
    · exact h2 u hu
end
mutual
theorem fuse_id : ∀ t : Tr, flatP t = true → fuseT t = t
  | .mk kd n s ks, h => by rw [fuseT_mk, fuses_id kd ks (by rw [flatP_mk] at h; exact h)]
theorem fuses_id : ∀ (kd : Int) (ks : List Tr), flatPs kd ks = true → fuseTs kd ks = ks
  | kd, [], _ => fuseTs_nil kd
  | kd, t :: ts, h => by
    rw [flatPs_cons, Bool.and_eq_true, Bool.and_eq_true] at h
    rw [fuseTs_cons, fuse_id t h.1.2, fuses_id kd ts h.2]
    have h1 : (kd == 32 && t.kind == 32) = false := by simpa only [Bool.not_eq_true'] using h.1.1
    rw [h1]
    rfl
end
/-- At each place of a tree laid flat lies a tree; whatever is handed down to children holds of it. -/
theorem sub_at (P : Tr → Prop) (hP : ∀ t, P t → ∀ u ∈ t.kids, P u) : ∀ (N : Nat) (t : Tr) (i : Nat), (flat t).length ≤ N → P t → i < (flat t).length → ∃ u rest, P u ∧ (flat t).drop i = flat u ++ rest
  | 0, t, i, h, _, hi => by omega
  | N + 1, .mk kd n s ks, i, h, hp, hi => by
    cases i with
    | zero => exact ⟨.mk kd n s ks, [], hp, by simp⟩
    | succ i =>
      have hk := hP _ hp
      simp only [Tr.kids] at hk
      rw [flat_size] at h hi
      have hgo : ∀ (ks : List Tr) (i : Nat), (∀ u ∈ ks, P u) → (flatAll ks).length ≤ N → i < (flatAll ks).length → ∃ u rest, P u ∧ (flatAll ks).drop i = flat u ++ rest := by
        intro ks
        induction ks with
        | nil => intro i _ _ hi; rw [flatAll_nil] at hi; simp at hi
        | cons t ts iht =>
          intro i hks hN hi
          rw [flatAll_cons, List.length_append] at hN hi
          by_cases hlt : i < (flat t).length
          · obtain ⟨u, rest, h1, h2⟩ := sub_at P hP N t i (by omega) (hks t (by simp)) hlt
            refine ⟨u, rest ++ flatAll ts, h1, ?_⟩
            rw [flatAll_cons, List.drop_append_of_le_length (by omega), h2, List.append_assoc]
          · obtain ⟨u, rest, h1, h2⟩ := iht (i - (flat t).length) (fun u hu => hks u (by simp [hu])) (by omega) (by omega)
            refine ⟨u, rest, h1, ?_⟩
            rw [flatAll_cons, List.drop_append, List.drop_of_length_le (by omega), List.nil_append, h2]
      obtain ⟨u, rest, h1, h2⟩ := hgo ks i hk (by omega) (by omega)
      exact ⟨u, rest, h1, by rw [flat_mk, List.drop_succ_cons, h2]⟩
end Go.Proofs.YtjhgljfmheopmaaDoor
