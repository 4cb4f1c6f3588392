/- Which functions are known (chapter 19): each once; with no program in sight. No condition. -/
import Derived.Test.YtclifaehbdeldaaDoorInlM
import Derived.Test.YtclifaehbdeldaaDoorSortI
import Derived.WalkKit
set_option linter.unusedVariables false
set_option linter.unusedSimpArgs false
namespace Go.Proofs.YtclifaehbdeldaaDoor
open Go.Sort

theorem cntF_append (a b : List Nd) (s : List UInt8) : cntF (a ++ b) s = cntF a s + cntF b s := by
  unfold cntF
  rw [List.countP_append]
theorem cnt_kids (s : List UInt8) : ∀ ks : List Tr, (ks.countP fun k => k.kind == 31 && k.str == s) ≤ cntF (flatAll ks) s
  | [] => Nat.zero_le _
  | k :: ks => by
    have ih := cnt_kids s ks
    rw [flatAll_cons, cntF_append, List.countP_cons]
    obtain ⟨r, hr⟩ := flat_head k
    rw [hr]
    unfold cntF at ih ⊢
    rw [List.countP_cons]
    simp only
    split <;> omega
theorem cnt_tree (t : Tr) (s : List UInt8) : (t.kids.countP fun k => k.kind == 31 && k.str == s) ≤ cntF (flat t) s := by
  cases t with
  | mk kd n s' ks =>
    have h := cnt_kids s ks
    rw [flat_mk]
    unfold cntF at h ⊢
    rw [List.countP_cons]
    simp only [Tr.kids]
    omega
theorem own_sub (L : List Nd) (ks : List Tr) : (ownF L ks).Sublist ks := List.filter_sublist.trans (List.takeWhile_prefix _).sublist
theorem own_mem {L : List Nd} {ks : List Tr} {k : Tr} (h : k ∈ ownF L ks) : k ∈ ks ∧ k.kind = 31 ∧ cntF L k.str = 1 := by
  have h1 := (own_sub L ks).subset h
  unfold ownF ownK at h
  rw [List.mem_filter] at h
  exact ⟨h1, leadF_kind h.1, by simpa using h.2⟩
theorem own_nodup (t : Tr) : ((ownF (flat t) t.kids).map Tr.str).Nodup := by
  rw [List.nodup_iff_count]
  intro a
  rw [List.count, List.countP_map]
  by_cases h0 : (ownF (flat t) t.kids).countP ((fun x => x == a) ∘ Tr.str) = 0
  · omega
  · have hpos : 0 < (ownF (flat t) t.kids).countP ((fun x => x == a) ∘ Tr.str) := by omega
    obtain ⟨k, hk, hka⟩ := List.countP_pos_iff.1 hpos
    obtain ⟨_, _, hc⟩ := own_mem hk
    have hka' : k.str = a := by simpa using hka
    rw [hka'] at hc
    have h1 : (ownF (flat t) t.kids).countP ((fun x => x == a) ∘ Tr.str) = (ownF (flat t) t.kids).countP (fun k => k.kind == 31 && k.str == a) := by
      refine List.countP_congr fun k hk => ?_
      obtain ⟨_, h31, _⟩ := own_mem hk
      simp [h31]
    have h2 := (own_sub (flat t) t.kids).countP_le (p := fun k => k.kind == 31 && k.str == a)
    have h3 := cnt_tree t a
    omega
theorem lead_at : ∀ (ks : List Tr) (k : Nat) (hk : k ≤ ks.length), (∀ j (h : j < k), (ks[j]'(by omega)).kind = 31) → (∀ h : k < ks.length, ks[k].kind ≠ 31) → leadF ks = ks.take k
  | [], k, hk, _, _ => by
    obtain rfl : k = 0 := by simpa using hk
    rfl
  | t :: ks, 0, hk, _, h2 => by
    have := h2 (by simp)
    simp only [List.getElem_cons_zero] at this
    unfold leadF
    rw [List.takeWhile_cons, if_neg (by simpa using this), List.take_zero]
  | t :: ks, k + 1, hk, h1, h2 => by
    have h0 := h1 0 (by omega)
    simp only [List.getElem_cons_zero] at h0
    have ih := lead_at ks k (by simpa using hk) (fun j h => by have := h1 (j + 1) (by omega); simpa using this) (fun h => by have := h2 (by simpa using h); simpa using this)
    unfold leadF at ih ⊢
    rw [List.takeWhile_cons, if_pos (by simpa using h0), ih, List.take_succ_cons]
theorem okAll_ex {f : Nat → Tr → Bool} : ∀ (ts : List Tr) (k : Nat), okAll f k ts = true → ∀ t ∈ ts, ∃ k, f k t = true
  | [], k, _, t, h => by cases h
  | u :: ts, k, ho, t, h => by
    rw [okAll, Bool.and_eq_true] at ho
    rcases List.mem_cons.1 h with rfl | h
    · exact ⟨k, ho.1⟩
    · exact okAll_ex ts (k + 1) ho.2 t h
theorem kids_one {k : Int} {ks : List Tr} (h : childrenB k ks.length = true) (hk : k = 31) : ∃ c, ks = [c] := by
  subst hk
  simp [childrenB] at h
  match ks, h with
  | [c], _ => exact ⟨c, rfl⟩
theorem fun_kid {t : Tr} (h : okT 30 false t = true) : ∀ k ∈ t.kids, k.kind = 31 → ∃ c, k.kids = [c] := by
  intro k hk h31
  obtain ⟨kd, n, s, ks⟩ := t
  rw [okT] at h
  simp only [Bool.and_eq_true] at h
  obtain ⟨i, hi⟩ := okAll_ex ks 0 h.2 k hk
  obtain ⟨kd', n', s', ks'⟩ := k
  rw [okT] at hi
  simp only [Bool.and_eq_true] at hi
  exact kids_one hi.1.2 h31
/-- How often a name is there so far. -/
def cntV (L : List Nd) (s : List UInt8) : Option Value := if cntF L s = 0 then none else some (.int .i64 (cntF L s))
theorem cntV_get (L : List Nd) (s : List UInt8) : (cntV L s).getD (.int .i64 0) = .int .i64 (cntF L s) := by
  unfold cntV
  split
  · rename_i h; rw [h]; rfl
  · rfl
theorem cntV_snoc (L : List Nd) (x : Nd) (s : List UInt8) : cntV (L ++ [x]) s = if x.kind = 31 ∧ s = x.s then some (.int .i64 ((cntF L x.s : Int) + 1)) else cntV L s := by
  unfold cntV
  rw [cntF_append]
  have h1 : cntF [x] s = if x.kind = 31 ∧ s = x.s then 1 else 0 := by
    unfold cntF
    rw [List.countP_cons, List.countP_nil, Nat.zero_add]
    by_cases h : x.kind = 31 ∧ s = x.s
    · rw [if_pos h, if_pos (by simp [h.1, h.2])]
    · rw [if_neg h, if_neg]
      intro hc
      rw [Bool.and_eq_true, beq_iff_eq, beq_iff_eq] at hc
      exact h ⟨hc.1, hc.2.symm⟩
  rw [h1]
  by_cases h : x.kind = 31 ∧ s = x.s
  · rw [if_pos h, if_pos h, if_neg (by omega), ← h.2]
    simp
  · rw [if_neg h, if_neg h, Nat.add_zero]
theorem cntF_le (L : List Nd) (s : List UInt8) : cntF L s ≤ L.length := List.countP_le_length
end Go.Proofs.YtclifaehbdeldaaDoor
