/- Every good tree is written: word and do, by size. No condition beyond the bounds in their contracts. -/
import Derived.Test.YthmeonimianoeaaDoorGenD4
set_option linter.unusedVariables false
set_option linter.unusedSimpArgs false
namespace Go.Proofs.YthmeonimianoeaaDoor
open Go.RowKit

theorem okAll_get {f : Nat → Tr → Bool} : ∀ (ts : List Tr) (k : Nat), okAll f k ts = true → ∀ i (h : i < ts.length), f (k + i) ts[i] = true
  | t :: ts, k, h, 0, _ => by rw [okAll, Bool.and_eq_true] at h; exact h.1
  | t :: ts, k, h, i + 1, hi => by
    rw [okAll, Bool.and_eq_true] at h
    have := okAll_get ts (k + 1) h.2 i (by simpa using hi)
    rw [show k + (i + 1) = k + 1 + i by omega]
    exact this
theorem okT_parts {d : Nat} {b : Bool} {kd n : Int} {s : List UInt8} {ks : List Tr} (h : okT (d + 1) b (.mk kd n s ks) = true) : kindB b kd = true ∧ fieldsB ⟨kd, n, 0, 0, s⟩ = true ∧ childrenB kd ks.length = true ∧ ∀ i (hi : i < ks.length), okT d (takesB kd ks.length i) ks[i] = true := by
  rw [okT] at h
  simp only [Bool.and_eq_true] at h
  obtain ⟨⟨⟨h1, h2⟩, h3⟩, h4⟩ := h
  exact ⟨h1, h2, h3, fun i hi => by have := okAll_get ks 0 h4 i hi; rwa [Nat.zero_add] at this⟩
theorem ok_kind {d : Nat} {b : Bool} {t : Tr} (h : okT d b t = true) : t.kind ≠ 0 := by
  cases d with
  | zero => cases t; rw [okT] at h; cases h
  | succ d =>
    cases t with
    | mk kd n s ks =>
      have h1 := (okT_parts h).1
      intro h0
      have h0' : kd = 0 := h0
      subst h0'
      cases b <;> revert h1 <;> decide
theorem word_range {kd : Int} (h : kindB true kd = true) : 1 ≤ kd ∧ kd ≤ 12 := by
  simp [kindB, wordB] at h
  omega
theorem command_range {kd : Int} (h : kindB false kd = true) : 20 ≤ kd ∧ kd ≤ 37 := by
  simp [kindB, commandB] at h
  omega
theorem height_pos : ∀ (d : Nat) (t : Tr), okT d true t = true → 1 ≤ heightT t
  | 0, .mk kd n s ks, h => by rw [okT] at h; cases h
  | d + 1, .mk kd n s ks, h => by
    obtain ⟨h1, h2, h3, h4⟩ := okT_parts h
    obtain ⟨hr1, hr2⟩ := word_range h1
    rw [heightT_mk]
    unfold topH
    split
    · exact Nat.le_max_left _ _
    · rename_i hk
      split
      · exact Nat.le_refl _
      · rename_i hk2
        simp only [Bool.or_eq_true, beq_iff_eq, not_or, Bool.and_eq_true, not_and] at hk hk2
        have hlen : 0 < ks.length := by
          rcases Nat.eq_zero_or_pos ks.length with h0 | h0
          · rw [h0] at h3
            have : kd = 3 ∨ kd = 4 ∨ kd = 5 ∨ kd = 6 ∨ kd = 7 ∨ kd = 8 ∨ kd = 9 ∨ kd = 10 ∨ kd = 11 := by omega
            rcases this with rfl | rfl | rfl | rfl | rfl | rfl | rfl | rfl | rfl
            · exact absurd h0 (hk2 rfl)
            all_goals exact absurd h3 (by decide)
          · exact h0
        have ht : takesB kd ks.length 0 = true := by
          have : kd = 3 ∨ kd = 4 ∨ kd = 5 ∨ kd = 6 ∨ kd = 7 ∨ kd = 8 ∨ kd = 9 ∨ kd = 10 ∨ kd = 11 := by omega
          rcases this with rfl | rfl | rfl | rfl | rfl | rfl | rfl | rfl | rfl <;> rfl
        have h5 := h4 0 hlen
        rw [show ((0 : Nat) : Int) = 0 from rfl, ht] at h5
        have h6 := height_pos d _ h5
        have h7 := heightTs_get kd ks.length 0 ks 0 hlen
        omega
theorem flat1 (t : Tr) : (flatAll [t]).length = (flat t).length := by rw [flatAll_cons, flatAll_nil, List.append_nil]
theorem flat2 (t u : Tr) : (flatAll [t, u]).length = (flat t).length + (flat u).length := by rw [flatAll_cons, flatAll_cons, flatAll_nil, List.append_nil, List.length_append]
set_option maxRecDepth 100000 in
set_option maxHeartbeats 4000000 in
/-- ticked, whatever the kind. -/
theorem tk_all (kd n : Int) (s : List UInt8) (ks : List Tr) (d : Nat) (hr : kd = 21 ∨ kd = 22 ∨ (30 ≤ kd ∧ kd ≤ 37)) (hs : s.length ≤ 2000) (hc : childrenB kd ks.length = true) (hok : ∀ i (hi : i < ks.length), okT d (takesB kd ks.length i) ks[i] = true)
    (hw : ∀ i (hi : i < ks.length), takesB kd ks.length i = true → WordOk ks[i]) (hd : ∀ i (hi : i < ks.length), takesB kd ks.length i = false → DoOk ks[i]) : TkOk kd n s ks := by
  intro kk z base g X now high H A c m w hin hH hm hmc
  have kh := fun i (h : i < ks.length) => kid_h kd n s ks i h
  rw [← hH] at kh
  have hcase : kd = 21 ∨ kd = 22 ∨ kd = 30 ∨ kd = 31 ∨ kd = 32 ∨ kd = 33 ∨ kd = 34 ∨ kd = 35 ∨ kd = 36 ∨ kd = 37 := by omega
  rcases hcase with rfl | rfl | rfl | rfl | rfl | rfl | rfl | rfl | rfl | rfl
  · have h1 : 1 ≤ ks.length := by simp [childrenB] at hc; omega
    exact tk21 ks (fun t ht => by
      obtain ⟨i, hi, rfl⟩ := List.mem_iff_getElem.1 ht
      exact hw i hi rfl) h1 n kk z s hs base g X now high H A c m w hin hm (fun i h => by have := kh i h; simpa [addH] using this)
  · have h1 : ks.length = 1 := by simp [childrenB] at hc; omega
    obtain ⟨t, rfl⟩ : ∃ t, ks = [t] := by
      match ks, h1 with
      | [t], _ => exact ⟨t, rfl⟩
    rw [flat1] at hin ⊢
    exact tk22 t (hw 0 (by simp) rfl) n kk z s hs base g X now high H A c m w hin hm (by have := kh 0 (by simp); simpa [addH] using this)
  · have h1 : ks.length % 2 = 1 := by simp [childrenB] at hc; omega
    obtain ⟨p, hp⟩ : ∃ p, ks.length = 2 * p + 1 := ⟨ks.length / 2, by omega⟩
    exact tk30 ks p hp (fun k h hk => hw k h (by
      simp only [takesB]
      rcases hk with rfl | hk
      · rfl
      · simp; omega)) (fun k h h0 h2 => hd k h (by
      simp only [takesB]
      simp
      omega)) n kk z s hs base g X now high H A c m w hin hm (fun i h => by have := kh i h; simpa [addH] using this)
  · have h1 : ks.length = 1 := by simp [childrenB] at hc; omega
    obtain ⟨t, rfl⟩ : ∃ t, ks = [t] := by
      match ks, h1 with
      | [t], _ => exact ⟨t, rfl⟩
    rw [flat1] at hin ⊢
    exact tk31 t (hd 0 (by simp) rfl) n kk z s hs base g X now high H A c m w hin hm (by have := kh 0 (by simp); simpa [addH] using this)
  · have h1 : 1 ≤ ks.length := by simp [childrenB] at hc; omega
    exact tk32 ks (fun k h => hd k h rfl) h1 n kk z s hs base g X now high H A c m w hin hm (fun i h => by have := kh i h; simpa [addH] using this)
  · have h1 : ks.length = 2 := by simp [childrenB] at hc; omega
    obtain ⟨t, u, rfl⟩ : ∃ t u, ks = [t, u] := by
      match ks, h1 with
      | [t, u], _ => exact ⟨t, u, rfl⟩
    have hp : 1 ≤ heightT t := height_pos d t (hok 0 (by simp))
    have k0 : heightT t ≤ H := by have := kh 0 (by simp); simpa [addH] using this
    have k1 : heightT u ≤ H := by have := kh 1 (by simp); simpa [addH] using this
    rw [flat2] at hin ⊢
    exact tk33 t u (hw 0 (by simp) rfl) (hd 1 (by simp) rfl) n kk z s hs base g X now high H A c m w hin hm k0 k1 (Nat.le_trans hp k0)
  · have h1 : ks.length = 2 := by simp [childrenB] at hc; omega
    obtain ⟨t, u, rfl⟩ : ∃ t u, ks = [t, u] := by
      match ks, h1 with
      | [t, u], _ => exact ⟨t, u, rfl⟩
    have hp : 1 ≤ heightT t := height_pos d t (hok 0 (by simp))
    have k0 : heightT t ≤ H := by have := kh 0 (by simp); simpa [addH] using this
    have k1 : heightT u ≤ H := by have := kh 1 (by simp); simpa [addH] using this
    rw [flat2] at hin ⊢
    exact tk34 t u (hw 0 (by simp) rfl) (hd 1 (by simp) rfl) n kk z s hs base g X now high H A c m w hin hm k0 k1 (Nat.le_trans hp k0)
  · have h1 : ks.length = 2 := by simp [childrenB] at hc; omega
    obtain ⟨t, u, rfl⟩ : ∃ t u, ks = [t, u] := by
      match ks, h1 with
      | [t, u], _ => exact ⟨t, u, rfl⟩
    have hp : 1 ≤ heightT t := height_pos d t (hok 0 (by simp))
    have k0 : heightT t ≤ H := by have := kh 0 (by simp); simpa [addH] using this
    have k1 : heightT u ≤ H := by have := kh 1 (by simp); simpa [addH] using this
    rw [flat2] at hin ⊢
    exact tk35 t u (hw 0 (by simp) rfl) (hd 1 (by simp) rfl) n kk z s hs base g X now high H A c m w hin hm k0 k1 (Nat.le_trans hp k0)
  · have h1 : ks.length = 1 := by simp [childrenB] at hc; omega
    obtain ⟨t, rfl⟩ : ∃ t, ks = [t] := by
      match ks, h1 with
      | [t], _ => exact ⟨t, rfl⟩
    rw [flat1] at hin ⊢
    exact tk36 t (hw 0 (by simp) rfl) n kk z s hs base g X now high H A c m w hin hm (by have := kh 0 (by simp); simpa [addH] using this)
  · have h1 : 1 ≤ ks.length := by simp [childrenB] at hc; omega
    obtain ⟨p, hp⟩ : ∃ p, ks.length = p + 1 := ⟨ks.length - 1, by omega⟩
    refine tk37 ks p hp (fun t ht => ?_) (fun h => hd p h (by simp [takesB]; omega)) n kk z s hs base g X now high H A c m w hin (by omega) hmc (fun i h => ?_) (fun h => by have := kh p h; omega)
    · obtain ⟨i, hi, rfl⟩ := List.mem_iff_getElem.1 ht
      rw [List.length_take] at hi
      rw [List.getElem_take]
      exact hw i (by omega) (by simp [takesB]; omega)
    · rw [List.length_take] at h
      rw [List.getElem_take]
      have := kh i (by omega)
      have hi : addH 37 ks.length i = i := by
        unfold addH
        rw [if_neg (by decide), if_pos (by decide), if_pos (by omega)]
      omega
theorem gen_all : ∀ (N : Nat) (t : Tr) (d : Nat), (flat t).length ≤ N → (okT d true t = true → WordOk t) ∧ (okT d false t = true → DoOk t) := by
  intro N
  induction N with
  | zero => intro t d h; have := flat_pos t; omega
  | succ N ih =>
    intro t d hN
    cases d with
    | zero => cases t; exact ⟨fun h => (by rw [okT] at h; cases h), fun h => (by rw [okT] at h; cases h)⟩
    | succ d =>
      cases t with
      | mk kd n s ks =>
        rw [flat_size] at hN
        have kid : ∀ b, okT (d + 1) b (.mk kd n s ks) = true → (∀ t ∈ ks, t.kind ≠ 0) ∧ (∀ i (hi : i < ks.length), takesB kd ks.length i = true → WordOk ks[i]) ∧ (∀ i (hi : i < ks.length), takesB kd ks.length i = false → DoOk ks[i]) := by
          intro b h
          obtain ⟨_, _, _, h4⟩ := okT_parts h
          refine ⟨fun t ht => ?_, fun i hi ht => ?_, fun i hi ht => ?_⟩
          · obtain ⟨i, hi, rfl⟩ := List.mem_iff_getElem.1 ht
            exact ok_kind (h4 i hi)
          · have h5 := h4 i hi
            rw [ht] at h5
            exact (ih ks[i] d (by have := flatAll_mem_le ks i hi; omega)).1 h5
          · have h5 := h4 i hi
            rw [ht] at h5
            exact (ih ks[i] d (by have := flatAll_mem_le ks i hi; omega)).2 h5
        refine ⟨fun h => ?_, fun h => ?_⟩
        · obtain ⟨hz, hw, hd⟩ := kid true h
          have hh := height_pos _ _ h
          obtain ⟨h1, h2, h3, h4⟩ := okT_parts h
          obtain ⟨r1, r2⟩ := word_range h1
          have hs := fields_s h2
          have hcase : kd = 1 ∨ kd = 2 ∨ kd = 3 ∨ kd = 4 ∨ (5 ≤ kd ∧ kd ≤ 11) ∨ kd = 12 := by omega
          rcases hcase with rfl | rfl | rfl | rfl | ⟨r3, r4⟩ | rfl
          · exact wd1 1 rfl n s ks hz hs hh
          · exact wd2 2 rfl n s ks hz hs hh
          · exact wd3 3 rfl n s ks hz hs hh (fun t ht => by
              obtain ⟨i, hi, rfl⟩ := List.mem_iff_getElem.1 ht
              exact hw i hi rfl)
          · exact wd4 4 rfl n s ks hz hs hh (fun t ht => by
              obtain ⟨i, hi, rfl⟩ := List.mem_iff_getElem.1 ht
              exact hw i hi rfl)
          · have hcase : kd = 5 ∨ kd = 6 ∨ kd = 7 ∨ kd = 8 ∨ kd = 9 ∨ kd = 10 ∨ kd = 11 := by omega
            have hl : ks.length = 1 := by rcases hcase with rfl | rfl | rfl | rfl | rfl | rfl | rfl <;> (simp [childrenB] at h3; omega)
            exact wd5 kd r3 r4 n s ks hz hs hh hl (fun t ht => by
              obtain ⟨i, hi, rfl⟩ := List.mem_iff_getElem.1 ht
              refine hw i hi ?_
              rcases hcase with rfl | rfl | rfl | rfl | rfl | rfl | rfl <;> rfl)
          · have hl : ks.length = 1 := by simp [childrenB] at h3; omega
            exact wd12 12 rfl n s ks hz hs hh hl (fun t ht => by
              obtain ⟨i, hi, rfl⟩ := List.mem_iff_getElem.1 ht
              exact hd i hi rfl)
        · obtain ⟨hz, hw, hd⟩ := kid false h
          obtain ⟨h1, h2, h3, h4⟩ := okT_parts h
          obtain ⟨r1, r2⟩ := command_range h1
          have hs := fields_s h2
          have hcase : kd = 20 ∨ kd = 23 ∨ kd = 24 ∨ kd = 25 ∨ kd = 26 ∨ kd = 27 ∨ kd = 28 ∨ kd = 29 ∨ (kd = 21 ∨ kd = 22 ∨ (30 ≤ kd ∧ kd ≤ 37)) := by omega
          rcases hcase with rfl | rfl | rfl | rfl | rfl | rfl | rfl | rfl | hk
          · exact dd20 20 rfl n s ks hz hs
          · exact dd23 23 rfl n s ks hz hs (by simp [childrenB] at h3; omega) (fun i hi => hd i hi rfl)
          · exact dd24 24 rfl n s ks hz hs (by simp [childrenB] at h3; omega) (fun i hi => hd i hi rfl)
          · exact dd25 25 rfl n s ks hz hs (by simp [childrenB] at h3; omega) (fun i hi => hd i hi rfl)
          · exact dd26 26 rfl n s ks hz hs (by simp [childrenB] at h3; omega) (fun i hi => hd i hi rfl)
          · exact dd27 27 rfl n s ks hz hs (by simp [childrenB] at h3; omega) (fun i hi => hd i hi rfl)
          · exact dd28 28 rfl n s ks hz hs (by simp [childrenB] at h3; omega) (fun i hi => hd i hi rfl)
          · exact dd29 29 rfl n s ks hz hs (by simp [childrenB] at h3; omega) (fun i hi => ⟨fun h0 => hw i hi (by subst h0; rfl), fun h0 => hd i hi (by simp [takesB]; omega)⟩)
          · exact ddtk kd hk n s ks hz hs (tk_all kd n s ks d hk hs h3 h4 hw hd)
end Go.Proofs.YthmeonimianoeaaDoor
