/- What chapter 20's statement rests on, on trees: numbers and strings of what may be, pipes counted, places of a tree laid flat. No condition. -/
import Derived.Test.YtjhgljfmheopmaaDoorFuseK
import Derived.Test.YtjhgljfmheopmaaDoorCheckW
set_option linter.unusedVariables false
set_option linter.unusedSimpArgs false
namespace Go.Proofs.YtjhgljfmheopmaaDoor

theorem nameB_len {s : List UInt8} (h : nameB s = true) : s.length ≤ 2000 := by
  cases s with
  | nil => simp
  | cons c t =>
    simp only [nameB, Bool.and_eq_true, decide_eq_true_eq] at h
    rw [List.length_cons]
    omega
theorem fields_s {x : Nd} (h : fieldsB x = true) : x.s.length ≤ 2000 := by
  have he : x.s.isEmpty = true → x.s.length ≤ 2000 := fun h => by rw [List.isEmpty_iff.1 h]; simp
  unfold fieldsB at h
  repeat' (split at h)
  all_goals try simp only [Bool.and_eq_true, Bool.or_eq_true, decide_eq_true_eq, beq_iff_eq, Bool.false_eq_true] at h
  · exact h.2
  · exact he h.2
  · exact he h.2
  · rcases h with h | h
    · exact nameB_len h
    · rw [h]; simp
  · exact nameB_len h
  · exact he h
/-- May be somewhere. -/
def OkAny (t : Tr) : Prop := ∃ d w, okT d w t = true
theorem okAll_mem {f : Nat → Tr → Bool} : ∀ (ts : List Tr) (k : Nat), okAll f k ts = true → ∀ t ∈ ts, ∃ k, f k t = true
  | [], _, _, t, h => by cases h
  | u :: ts, k, h, t, hm => by
    rw [okAll, Bool.and_eq_true] at h
    rcases List.mem_cons.1 hm with rfl | hm
    · exact ⟨k, h.1⟩
    · exact okAll_mem ts (k + 1) h.2 t hm
theorem okAny_kids (t : Tr) (h : OkAny t) : ∀ u ∈ t.kids, OkAny u := by
  obtain ⟨d, w, h⟩ := h
  cases t with
  | mk kd n s ks =>
    cases d with
    | zero => rw [okT] at h; cases h
    | succ d =>
      rw [okT] at h
      simp only [Bool.and_eq_true] at h
      intro u hu
      obtain ⟨k, hk⟩ := okAll_mem ks 0 h.2 u hu
      exact ⟨d, _, hk⟩
theorem okAny_fields {t : Tr} (h : OkAny t) : fieldsB ⟨t.kind, t.num, 0, 0, t.str⟩ = true := by
  obtain ⟨d, w, h⟩ := h
  cases t with
  | mk kd n s ks =>
    cases d with
    | zero => rw [okT] at h; cases h
    | succ d =>
      rw [okT] at h
      simp only [Bool.and_eq_true] at h
      exact h.1.1.2
theorem kids_len (t : Tr) : t.kids.length < (flat t).length := by
  have h1 := len_flatAll t.kids
  have h2 := flat_kids_le t
  omega
/-- The nodes of what may be: their strings and their numbers of children are small. -/
theorem ok_nd {t : Tr} (h : OkAny t) (hn : (flat t).length ≤ 4000000) : ∀ x ∈ flat t, NdOk x := by
  intro x hx
  obtain ⟨i, hi, rfl⟩ := List.mem_iff_getElem.1 hx
  obtain ⟨u, rest, hu, hd⟩ := sub_at OkAny okAny_kids _ t i (Nat.le_refl _) h hi
  obtain ⟨r, hr⟩ := flat_head u
  have hl := congrArg List.length hd
  rw [List.length_drop, List.length_append] at hl
  rw [List.drop_eq_getElem_cons hi, hr, List.cons_append] at hd
  injection hd with hd _
  rw [hd]
  have h1 := fields_s (okAny_fields hu)
  have h2 := kids_len u
  simp only at h1
  exact ⟨by simp only; omega, by simp only; omega⟩

def isPipe (x : Nd) : Bool := x.kind == 32
theorem pipes_mk (kd n : Int) (s : List UInt8) (ks : List Tr) : (flat (.mk kd n s ks)).countP isPipe = (if kd == 32 then 1 else 0) + (flatAll ks).countP isPipe := by
  rw [flat_mk, List.countP_cons, Nat.add_comm]
  rfl
mutual
theorem pipes_le : ∀ t : Tr, (flat (fuseT t)).countP isPipe ≤ (flat t).countP isPipe
  | .mk kd n s ks => by
    have h := pipess_le kd ks
    rw [fuseT_mk, pipes_mk, pipes_mk]
    omega
theorem pipess_le : ∀ (kd : Int) (ks : List Tr), (flatAll (fuseTs kd ks)).countP isPipe ≤ (flatAll ks).countP isPipe
  | kd, [] => by rw [fuseTs_nil]; exact Nat.le_refl _
  | kd, t :: ts => by
    have h1 := pipes_le t
    have h2 := pipess_le kd ts
    rw [fuseTs_cons, flatAll_append, flatAll_cons, List.countP_append, List.countP_append]
    have h3 : (flatAll (fuseT t).kids).countP isPipe ≤ (flat (fuseT t)).countP isPipe := by
      cases fuseT t with
      | mk kd n s ks => rw [pipes_mk]; simp only [Tr.kids]; omega
    split
    · omega
    · rw [flatAll_cons, flatAll_nil, List.append_nil]
      omega
end
/-- At a place of a tree laid flat: the tree there, its size, what lies there. -/
theorem place_at (P : Tr → Prop) (hP : ∀ t, P t → ∀ u ∈ t.kids, P u) {t : Tr} (h : P t) {i : Nat} (hi : i < (flat t).length) :
    ∃ u, P u ∧ (flat t)[i].kind = u.kind ∧ (flat t)[i].size = ((flat u).length : Int) ∧ i + (flat u).length ≤ (flat t).length ∧ ((flat t).drop i).take (flat u).length = flat u := by
  obtain ⟨u, rest, hu, hd⟩ := sub_at P hP _ t i (Nat.le_refl _) h hi
  have hl := congrArg List.length hd
  rw [List.length_drop, List.length_append] at hl
  obtain ⟨r, hr⟩ := flat_head u
  have hd2 := hd
  rw [List.drop_eq_getElem_cons hi, hr, List.cons_append] at hd2
  injection hd2 with hd2 _
  refine ⟨u, hu, by rw [hd2], by rw [hd2], by omega, by rw [hd, List.take_left]⟩
end Go.Proofs.YtjhgljfmheopmaaDoor
