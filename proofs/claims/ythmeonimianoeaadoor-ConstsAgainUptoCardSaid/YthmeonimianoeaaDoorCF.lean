/- Fusing pipes, on trees (chapter 20), with no program in sight. No condition. -/
import Derived.Test.YthmeonimianoeaaDoorTree
import Derived.Test.YthmeonimianoeaaDoorCheckW
set_option linter.unusedVariables false
set_option linter.unusedSimpArgs false
namespace Go.Proofs.YthmeonimianoeaaDoor

mutual
def fuseT : Tr → Tr
  | .mk kd n s ks => .mk kd n s (fuseTs kd ks)
def fuseTs : Int → List Tr → List Tr
  | _, [] => []
  | kd, t :: ts => (if kd == 32 && (fuseT t).kind == 32 then (fuseT t).kids else [fuseT t]) ++ fuseTs kd ts
end
theorem fuseT_mk (kd n : Int) (s : List UInt8) (ks : List Tr) : fuseT (.mk kd n s ks) = .mk kd n s (fuseTs kd ks) := by rw [fuseT]
theorem fuseTs_nil (kd : Int) : fuseTs kd [] = [] := by rw [fuseTs]
theorem fuseTs_cons (kd : Int) (t : Tr) (ts : List Tr) : fuseTs kd (t :: ts) = (if kd == 32 && (fuseT t).kind == 32 then (fuseT t).kids else [fuseT t]) ++ fuseTs kd ts := by rw [fuseTs]
theorem fuseTs_append (kd : Int) (a b : List Tr) : fuseTs kd (a ++ b) = fuseTs kd a ++ fuseTs kd b := by
  induction a with
  | nil => rw [fuseTs_nil]; rfl
  | cons t a ih => rw [List.cons_append, fuseTs_cons, fuseTs_cons, ih, List.append_assoc]
theorem fuse_kind (t : Tr) : (fuseT t).kind = t.kind := by cases t; rw [fuseT_mk]; rfl
theorem fuse_take (kd : Int) (ks : List Tr) (k : Nat) (h : k < ks.length) : fuseTs kd (ks.take (k + 1)) = fuseTs kd (ks.take k) ++ (if kd == 32 && (fuseT ks[k]).kind == 32 then (fuseT ks[k]).kids else [fuseT ks[k]]) := by
  rw [List.take_succ_eq_append_getElem h, fuseTs_append, fuseTs_cons, fuseTs_nil, List.append_nil]
mutual
theorem fuseT_le : ∀ t : Tr, (flat (fuseT t)).length ≤ (flat t).length
  | .mk kd n s ks => by
    have h := fuseTs_le kd ks
    rw [fuseT_mk, flat_size, flat_size]
    omega
theorem fuseTs_le : ∀ (kd : Int) (ks : List Tr), (flatAll (fuseTs kd ks)).length ≤ (flatAll ks).length
  | kd, [] => by rw [fuseTs_nil]; exact Nat.le_refl _
  | kd, t :: ts => by
    have h1 := fuseT_le t
    have h2 := fuseTs_le kd ts
    have h3 := flat_kids_le (fuseT t)
    rw [fuseTs_cons, flatAll_append, flatAll_cons, List.length_append, List.length_append]
    split
    · omega
    · rw [flatAll_cons, flatAll_nil, List.append_nil]
      omega
end
end Go.Proofs.YthmeonimianoeaaDoor

/- What chapter 20's statement rests on, on trees, with no program in sight. No condition. -/
set_option linter.unusedVariables false
set_option linter.unusedSimpArgs false
namespace Go.Proofs.YthmeonimianoeaaDoor

theorem okAll_congr {f g : Nat → Tr → Bool} : ∀ (ts : List Tr) (k : Nat), (∀ t ∈ ts, ∀ k, f k t = true → g k t = true) → okAll f k ts = true → okAll g k ts = true
  | [], _, _, _ => rfl
  | t :: ts, k, h, ho => by
    rw [okAll, Bool.and_eq_true] at ho
    rw [okAll, h t (by simp) k ho.1, okAll_congr ts (k + 1) (fun u hu => h u (by simp [hu])) ho.2]
    rfl
theorem okT_mono : ∀ (d : Nat) (w : Bool) (t : Tr), okT d w t = true → okT (d + 1) w t = true
  | 0, w, t, h => by rw [okT] at h; cases h
  | d + 1, w, .mk kd n s ks, h => by
    rw [okT] at h ⊢
    simp only [Bool.and_eq_true] at h ⊢
    exact ⟨h.1, okAll_congr ks 0 (fun t _ k h => okT_mono d _ t h) h.2⟩
/-- In a place that asks the same of each: every one. -/
theorem okAll_forall {f : Tr → Bool} : ∀ (ts : List Tr) (k : Nat), okAll (fun _ t => f t) k ts = true ↔ ∀ t ∈ ts, f t = true
  | [], k => by simp [okAll]
  | t :: ts, k => by rw [okAll, Bool.and_eq_true, okAll_forall ts (k + 1)]; simp
theorem fuseTs_other {kd : Int} (h : (kd == 32) = false) : ∀ ks : List Tr, fuseTs kd ks = ks.map fuseT
  | [] => by rw [fuseTs_nil]; rfl
  | t :: ts => by rw [fuseTs_cons, h, fuseTs_other h ts]; rfl
theorem okAll_map {f : Nat → Tr → Bool} {g : Tr → Tr} : ∀ (ts : List Tr) (k : Nat), (∀ t ∈ ts, ∀ k, f k t = true → f k (g t) = true) → okAll f k ts = true → okAll f k (ts.map g) = true
  | [], _, _, _ => rfl
  | t :: ts, k, h, ho => by
    rw [okAll, Bool.and_eq_true] at ho
    rw [List.map_cons, okAll, h t (by simp) k ho.1, okAll_map ts (k + 1) (fun u hu => h u (by simp [hu])) ho.2]
    rfl
theorem pipe_kids {d : Nat} {w : Bool} {t : Tr} (h : okT (d + 1) w t = true) (hk : t.kind = 32) : 2 ≤ t.kids.length ∧ ∀ u ∈ t.kids, okT d false u = true := by
  cases t with
  | mk kd n s ks =>
    simp only [Tr.kind] at hk
    subst hk
    rw [okT] at h
    simp only [Bool.and_eq_true] at h
    have h2 : okAll (fun _ t => okT d false t) 0 ks = true := h.2
    refine ⟨?_, (okAll_forall ks 0).1 h2⟩
    have h3 := h.1.2
    simp [childrenB] at h3
    simp only [Tr.kids]
    omega
/-- A fused program may be, where the program may. -/
theorem fuse_ok : ∀ (d : Nat) (w : Bool) (t : Tr), okT d w t = true → okT d w (fuseT t) = true
  | 0, w, t, h => by rw [okT] at h; cases h
  | d + 1, w, .mk kd n s ks, h => by
    have ih := fuse_ok d
    rw [fuseT_mk]
    cases hk : (kd == 32)
    · rw [fuseTs_other hk]
      rw [okT] at h ⊢
      simp only [Bool.and_eq_true, List.length_map] at h ⊢
      exact ⟨h.1, okAll_map ks 0 (fun t _ k h => ih _ t h) h.2⟩
    · obtain rfl : kd = 32 := by simpa using hk
      have hpk := pipe_kids h rfl
      simp only [Tr.kids] at hpk
      have hmem : ∀ (ks : List Tr), (∀ u ∈ ks, okT d false u = true) → ∀ u ∈ fuseTs 32 ks, okT d false u = true := by
        intro ks
        induction ks with
        | nil => intro _ u hu; rw [fuseTs_nil] at hu; cases hu
        | cons t ts iht =>
          intro hks u hu
          rw [fuseTs_cons, List.mem_append] at hu
          rcases hu with hu | hu
          · have h1 := ih false t (hks t (by simp))
            split at hu
            · rename_i hc
              simp only [Bool.and_eq_true, beq_iff_eq] at hc
              cases d with
              | zero => rw [okT] at h1; cases h1
              | succ d => exact okT_mono d false u ((pipe_kids h1 hc.2).2 u hu)
            · rw [List.mem_singleton.1 hu]; exact h1
          · exact iht (fun u hu => hks u (by simp [hu])) u hu
      have hlen : ∀ (ks : List Tr), (∀ u ∈ ks, okT d false u = true) → ks.length ≤ (fuseTs 32 ks).length := by
        intro ks
        induction ks with
        | nil => intro _; simp
        | cons t ts iht =>
          intro hks
          have h2 := iht (fun u hu => hks u (by simp [hu]))
          have h1 := ih false t (hks t (by simp))
          rw [fuseTs_cons, List.length_append, List.length_cons]
          split
          · rename_i hc
            simp only [Bool.and_eq_true, beq_iff_eq] at hc
            cases d with
            | zero => rw [okT] at h1; cases h1
            | succ d => have := (pipe_kids h1 hc.2).1; omega
          · simp; omega
      have h5 := hlen ks hpk.2
      have h6 := hmem ks hpk.2
      rw [okT] at h ⊢
      simp only [Bool.and_eq_true] at h ⊢
      refine ⟨⟨h.1.1, ?_⟩, (okAll_forall _ 0).2 h6⟩
      simp [childrenB]
      omega
mutual
def flatP : Tr → Bool
  | .mk kd _ _ ks => flatPs kd ks
def flatPs : Int → List Tr → Bool
  | _, [] => true
  | kd, t :: ts => !(kd == 32 && t.kind == 32) && flatP t && flatPs kd ts
end
theorem flatPs_cons (kd : Int) (t : Tr) (ts : List Tr) : flatPs kd (t :: ts) = (!(kd == 32 && t.kind == 32) && flatP t && flatPs kd ts) := by rw [flatPs]
theorem flatP_mk (kd n : Int) (s : List UInt8) (ks : List Tr) : flatP (.mk kd n s ks) = flatPs kd ks := by rw [flatP]
theorem flatPs_all (kd : Int) : ∀ ks : List Tr, flatPs kd ks = true ↔ ∀ t ∈ ks, (kd == 32 && t.kind == 32) = false ∧ flatP t = true
  | [] => by rw [flatPs]; simp
  | t :: ts => by
    rw [flatPs_cons, Bool.and_eq_true, Bool.and_eq_true, flatPs_all kd ts]
    simp only [List.mem_cons, forall_eq_or_imp, Bool.not_eq_true']
theorem flatP_kids {t : Tr} (h : flatP t = true) : ∀ u ∈ t.kids, (t.kind == 32 && u.kind == 32) = false ∧ flatP u = true := by
  cases t with
  | mk kd n s ks => rw [flatP_mk] at h; exact (flatPs_all kd ks).1 h
mutual
theorem fuse_flat : ∀ t : Tr, flatP (fuseT t) = true
  | .mk kd n s ks => by rw [fuseT_mk, flatP_mk]; exact fuses_flat kd ks
theorem fuses_flat : ∀ (kd : Int) (ks : List Tr), flatPs kd (fuseTs kd ks) = true
  | kd, [] => by rw [fuseTs_nil, flatPs]
  | kd, t :: ts => by
    have h1 := fuse_flat t
    have h2 := fuses_flat kd ts
    rw [fuseTs_cons]
    rw [flatPs_all] at h2 ⊢
    intro u hu
    rcases List.mem_append.1 hu with hu | hu
    · split at hu
      · rename_i hc
        simp only [Bool.and_eq_true, beq_iff_eq] at hc
        have h3 := flatP_kids h1 u hu
        rw [hc.2] at h3
        rw [hc.1]
        exact h3
      · rename_i hc
        rw [List.mem_singleton.1 hu]
        exact ⟨by simpa using hc, h1⟩
    · exact h2 u hu
end
mutual
theorem fuse_id : ∀ t : Tr, flatP t = true → fuseT t = t
  | .mk kd n s ks, h => by rw [fuseT_mk, fuses_id kd ks (by rw [flatP_mk] at h; exact h)]
theorem fuses_id : ∀ (kd : Int) (ks : List Tr), flatPs kd ks = true → fuseTs kd ks = ks
  | kd, [], _ => fuseTs_nil kd
  | kd, t :: ts, h => by
    rw [flatPs_cons, Bool.and_eq_true, Bool.and_eq_true] at h
    rw [fuseTs_cons, fuse_id t h.1.2, fuses_id kd ts h.2]
    have h1 : (kd == 32 && t.kind == 32) = false := by simpa only [Bool.not_eq_true'] using h.1.1
    rw [h1]
    rfl
end
/-- At each place of a tree laid flat lies a tree; whatever is handed down to children holds of it. -/
theorem sub_at (P : Tr → Prop) (hP : ∀ t, P t → ∀ u ∈ t.kids, P u) : ∀ (N : Nat) (t : Tr) (i : Nat), (flat t).length ≤ N → P t → i < (flat t).length → ∃ u rest, P u ∧ (flat t).drop i = flat u ++ rest
  | 0, t, i, h, _, hi => by omega
  | N + 1, .mk kd n s ks, i, h, hp, hi => by
    cases i with
    | zero => exact ⟨.mk kd n s ks, [], hp, by simp⟩
    | succ i =>
      have hk := hP _ hp
      simp only [Tr.kids] at hk
      rw [flat_size] at h hi
      have hgo : ∀ (ks : List Tr) (i : Nat), (∀ u ∈ ks, P u) → (flatAll ks).length ≤ N → i < (flatAll ks).length → ∃ u rest, P u ∧ (flatAll ks).drop i = flat u ++ rest := by
        intro ks
        induction ks with
        | nil => intro i _ _ hi; rw [flatAll_nil] at hi; simp at hi
        | cons t ts iht =>
          intro i hks hN hi
          rw [flatAll_cons, List.length_append] at hN hi
          by_cases hlt : i < (flat t).length
          · obtain ⟨u, rest, h1, h2⟩ := sub_at P hP N t i (by omega) (hks t (by simp)) hlt
            refine ⟨u, rest ++ flatAll ts, h1, ?_⟩
            rw [flatAll_cons, List.drop_append_of_le_length (by omega), h2, List.append_assoc]
          · obtain ⟨u, rest, h1, h2⟩ := iht (i - (flat t).length) (fun u hu => hks u (by simp [hu])) (by omega) (by omega)
            refine ⟨u, rest, h1, ?_⟩
            rw [flatAll_cons, List.drop_append, List.drop_of_length_le (by omega), List.nil_append, h2]
      obtain ⟨u, rest, h1, h2⟩ := hgo ks i hk (by omega) (by omega)
      exact ⟨u, rest, h1, by rw [flat_mk, List.drop_succ_cons, h2]⟩
end Go.Proofs.YthmeonimianoeaaDoor

/- What chapter 20's statement rests on, on trees: numbers and strings of what may be, pipes counted, places of a tree laid flat. No condition. -/
set_option linter.unusedVariables false
set_option linter.unusedSimpArgs false
namespace Go.Proofs.YthmeonimianoeaaDoor

theorem nameB_len {s : List UInt8} (h : nameB s = true) : s.length ≤ 2000 := by
  cases s with
  | nil => simp
  | cons c t =>
    simp only [nameB, Bool.and_eq_true, decide_eq_true_eq] at h
    rw [List.length_cons]
    omega
theorem fields_s {x : Nd} (h : fieldsB x = true) : x.s.length ≤ 2000 := by
  have he : x.s.isEmpty = true → x.s.length ≤ 2000 := fun h => by rw [List.isEmpty_iff.1 h]; simp
  unfold fieldsB at h
  repeat' (split at h)
  all_goals try simp only [Bool.and_eq_true, Bool.or_eq_true, decide_eq_true_eq, beq_iff_eq, Bool.false_eq_true] at h
  · exact h.2
  · exact he h.2
  · exact he h.2
  · rcases h with h | h
    · exact nameB_len h
    · rw [h]; simp
  · exact nameB_len h
  · exact he h
/-- May be somewhere. -/
def OkAny (t : Tr) : Prop := ∃ d w, okT d w t = true
theorem okAll_mem {f : Nat → Tr → Bool} : ∀ (ts : List Tr) (k : Nat), okAll f k ts = true → ∀ t ∈ ts, ∃ k, f k t = true
  | [], _, _, t, h => by cases h
  | u :: ts, k, h, t, hm => by
    rw [okAll, Bool.and_eq_true] at h
    rcases List.mem_cons.1 hm with rfl | hm
    · exact ⟨k, h.1⟩
    · exact okAll_mem ts (k + 1) h.2 t hm
theorem okAny_kids (t : Tr) (h : OkAny t) : ∀ u ∈ t.kids, OkAny u := by
  obtain ⟨d, w, h⟩ := h
  cases t with
  | mk kd n s ks =>
    cases d with
    | zero => rw [okT] at h; cases h
    | succ d =>
      rw [okT] at h
      simp only [Bool.and_eq_true] at h
      intro u hu
      obtain ⟨k, hk⟩ := okAll_mem ks 0 h.2 u hu
      exact ⟨d, _, hk⟩
theorem okAny_fields {t : Tr} (h : OkAny t) : fieldsB ⟨t.kind, t.num, 0, 0, t.str⟩ = true := by
  obtain ⟨d, w, h⟩ := h
  cases t with
  | mk kd n s ks =>
    cases d with
    | zero => rw [okT] at h; cases h
    | succ d =>
      rw [okT] at h
      simp only [Bool.and_eq_true] at h
      exact h.1.1.2
theorem kids_len (t : Tr) : t.kids.length < (flat t).length := by
  have h1 := len_flatAll t.kids
  have h2 := flat_kids_le t
  omega
/-- The nodes of what may be: their strings and their numbers of children are small. -/
theorem ok_nd {t : Tr} (h : OkAny t) (hn : (flat t).length ≤ 4000000) : ∀ x ∈ flat t, NdOk x := by
  intro x hx
  obtain ⟨i, hi, rfl⟩ := List.mem_iff_getElem.1 hx
  obtain ⟨u, rest, hu, hd⟩ := sub_at OkAny okAny_kids _ t i (Nat.le_refl _) h hi
  obtain ⟨r, hr⟩ := flat_head u
  have hl := congrArg List.length hd
  rw [List.length_drop, List.length_append] at hl
  rw [List.drop_eq_getElem_cons hi, hr, List.cons_append] at hd
  injection hd with hd _
  rw [hd]
  have h1 := fields_s (okAny_fields hu)
  have h2 := kids_len u
  simp only at h1
  exact ⟨by simp only; omega, by simp only; omega⟩

def isPipe (x : Nd) : Bool := x.kind == 32
theorem pipes_mk (kd n : Int) (s : List UInt8) (ks : List Tr) : (flat (.mk kd n s ks)).countP isPipe = (if kd == 32 then 1 else 0) + (flatAll ks).countP isPipe := by
  rw [flat_mk, List.countP_cons, Nat.add_comm]
  rfl
mutual
theorem pipes_le : ∀ t : Tr, (flat (fuseT t)).countP isPipe ≤ (flat t).countP isPipe
  | .mk kd n s ks => by
    have h := pipess_le kd ks
    rw [fuseT_mk, pipes_mk, pipes_mk]
    omega
theorem pipess_le : ∀ (kd : Int) (ks : List Tr), (flatAll (fuseTs kd ks)).countP isPipe ≤ (flatAll ks).countP isPipe
  | kd, [] => by rw [fuseTs_nil]; exact Nat.le_refl _
  | kd, t :: ts => by
    have h1 := pipes_le t
    have h2 := pipess_le kd ts
    rw [fuseTs_cons, flatAll_append, flatAll_cons, List.countP_append, List.countP_append]
    have h3 : (flatAll (fuseT t).kids).countP isPipe ≤ (flat (fuseT t)).countP isPipe := by
      cases fuseT t with
      | mk kd n s ks => rw [pipes_mk]; simp only [Tr.kids]; omega
    split
    · omega
    · rw [flatAll_cons, flatAll_nil, List.append_nil]
      omega
end
/-- At a place of a tree laid flat: the tree there, its size, what lies there. -/
theorem place_at (P : Tr → Prop) (hP : ∀ t, P t → ∀ u ∈ t.kids, P u) {t : Tr} (h : P t) {i : Nat} (hi : i < (flat t).length) :
    ∃ u, P u ∧ (flat t)[i].kind = u.kind ∧ (flat t)[i].size = ((flat u).length : Int) ∧ i + (flat u).length ≤ (flat t).length ∧ ((flat t).drop i).take (flat u).length = flat u := by
  obtain ⟨u, rest, hu, hd⟩ := sub_at P hP _ t i (Nat.le_refl _) h hi
  have hl := congrArg List.length hd
  rw [List.length_drop, List.length_append] at hl
  obtain ⟨r, hr⟩ := flat_head u
  have hd2 := hd
  rw [List.drop_eq_getElem_cons hi, hr, List.cons_append] at hd2
  injection hd2 with hd2 _
  refine ⟨u, hu, by rw [hd2], by rw [hd2], by omega, by rw [hd, List.take_left]⟩
end Go.Proofs.YthmeonimianoeaaDoor
