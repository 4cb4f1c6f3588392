/- Words of dialect C: where the braces end, said by places in the whole source; how long lists and texts become. No program in sight. -/
import Derived.Test.YtlhpflilpdceiaaDoorScanP
set_option linter.unusedVariables false
set_option linter.unusedSimpArgs false
namespace Go.Proofs.YtlhpflilpdceiaaDoor

def braceA (L : List UInt8) (i o : Nat) : Option Nat := (braceL o (L.drop i)).map (· + i)
theorem braceA_end {L : List UInt8} {i : Nat} (o : Nat) (h : L.length ≤ i) : braceA L i o = none := by
  unfold braceA
  rw [List.drop_eq_nil_of_le h]
  rfl
theorem map_map_add (x : Option Nat) (a b c : Nat) (h : a + b = c) : (x.map (· + a)).map (· + b) = x.map (· + c) := by
  cases x with
  | none => rfl
  | some k => simp only [Option.map_some, Option.some.injEq]; omega
theorem braceA_esc {L : List UInt8} {i : Nat} (o : Nat) (h : i < L.length) (hc : L[i] = 92) : braceA L i o = braceA L (i + 2) o := by
  unfold braceA
  rw [List.drop_eq_getElem_cons h, hc, braceL.eq_def]
  simp only [if_true]
  split
  · rename_i ht
    rw [List.drop_eq_nil_of_le (by have := congrArg List.length ht; simp at this; omega)]
    rfl
  · rename_i c u ht
    rw [map_map_add _ 2 i (i + 2) (by omega), show L.drop (i + 2) = u by rw [show i + 2 = (i + 1) + 1 by omega, ← List.drop_drop, ht]; rfl]
theorem braceA_open {L : List UInt8} {i : Nat} (o : Nat) (h : i < L.length) (hc : L[i] = 123) : braceA L i o = braceA L (i + 1) (o + 1) := by
  unfold braceA
  rw [List.drop_eq_getElem_cons h, hc, braceL.eq_def]
  simp only [show ¬ ((123 : UInt8) = 92) by decide, if_false, if_true]
  rw [map_map_add _ 1 i (i + 1) (by omega)]
theorem braceA_shut {L : List UInt8} {i : Nat} (h : i < L.length) (hc : L[i] = 125) : braceA L i 0 = some i := by
  unfold braceA
  rw [List.drop_eq_getElem_cons h, hc, braceL.eq_def]
  simp only [show ¬ ((125 : UInt8) = 92) by decide, show ¬ ((125 : UInt8) = 123) by decide, if_false, if_true]
  simp
theorem braceA_less {L : List UInt8} {i : Nat} (o : Nat) (h : i < L.length) (hc : L[i] = 125) (ho : o ≠ 0) : braceA L i o = braceA L (i + 1) (o - 1) := by
  unfold braceA
  rw [List.drop_eq_getElem_cons h, hc, braceL.eq_def]
  simp only [show ¬ ((125 : UInt8) = 92) by decide, show ¬ ((125 : UInt8) = 123) by decide, if_false, if_true, ho]
  rw [map_map_add _ 1 i (i + 1) (by omega)]
theorem braceA_on {L : List UInt8} {i : Nat} (o : Nat) (h : i < L.length) (h1 : L[i] ≠ 92) (h2 : L[i] ≠ 123) (h3 : L[i] ≠ 125) : braceA L i o = braceA L (i + 1) o := by
  unfold braceA
  rw [List.drop_eq_getElem_cons h, braceL.eq_def]
  simp only [h1, h2, h3, if_false]
  rw [map_map_add _ 1 i (i + 1) (by omega)]
def bracketA (L : List UInt8) (i o : Nat) : Option Nat := (bracketL o (L.drop i)).map (· + i)
theorem bracketA_end {L : List UInt8} {i : Nat} (o : Nat) (h : L.length ≤ i) : bracketA L i o = none := by
  unfold bracketA
  rw [List.drop_eq_nil_of_le h]
  rfl
theorem bracketA_esc {L : List UInt8} {i : Nat} (o : Nat) (h : i < L.length) (hc : L[i] = 92) : bracketA L i o = bracketA L (i + 2) o := by
  unfold bracketA
  rw [List.drop_eq_getElem_cons h, hc, bracketL_cons]
  simp only [if_true]
  split
  · rename_i ht
    rw [List.drop_eq_nil_of_le (by have := congrArg List.length ht; simp at this; omega)]
    rfl
  · rename_i c u ht
    rw [map_map_add _ 2 i (i + 2) (by omega), show L.drop (i + 2) = u by rw [show i + 2 = (i + 1) + 1 by omega, ← List.drop_drop, ht]; rfl]
theorem bracketA_none {L : List UInt8} {i : Nat} (o : Nat) (h : i < L.length) (hc : L[i] = 123) (hb : braceA L (i + 1) 0 = none) : bracketA L i o = none := by
  have hb' : braceL 0 (L.drop (i + 1)) = none := by
    unfold braceA at hb
    cases hq : braceL 0 (L.drop (i + 1)) with
    | none => rfl
    | some k => rw [hq] at hb; cases hb
  unfold bracketA
  rw [List.drop_eq_getElem_cons h, hc, bracketL_cons]
  simp only [show ¬ ((123 : UInt8) = 92) by decide, if_false, if_true, hb']
  rfl
theorem bracketA_brace {L : List UInt8} {i k : Nat} (o : Nat) (h : i < L.length) (hc : L[i] = 123) (hb : braceA L (i + 1) 0 = some k) : bracketA L i o = bracketA L (k + 1) o := by
  obtain ⟨j, hj, hk⟩ : ∃ j, braceL 0 (L.drop (i + 1)) = some j ∧ j + (i + 1) = k := by
    unfold braceA at hb
    rw [Option.map_eq_some_iff] at hb
    exact hb
  unfold bracketA
  rw [List.drop_eq_getElem_cons h, hc, bracketL_cons]
  simp only [show ¬ ((123 : UInt8) = 92) by decide, if_false, if_true, hj]
  rw [map_map_add _ (j + 2) i (k + 1) (by omega), List.drop_drop, show i + 1 + (j + 1) = k + 1 by omega]
theorem bracketA_open {L : List UInt8} {i : Nat} (o : Nat) (h : i < L.length) (hc : L[i] = 91) : bracketA L i o = bracketA L (i + 1) (o + 1) := by
  unfold bracketA
  rw [List.drop_eq_getElem_cons h, hc, bracketL_cons]
  simp only [show ¬ ((91 : UInt8) = 92) by decide, show ¬ ((91 : UInt8) = 123) by decide, if_false, if_true]
  rw [map_map_add _ 1 i (i + 1) (by omega)]
theorem bracketA_shut {L : List UInt8} {i : Nat} (h : i < L.length) (hc : L[i] = 93) : bracketA L i 0 = some i := by
  unfold bracketA
  rw [List.drop_eq_getElem_cons h, hc, bracketL_cons]
  simp only [show ¬ ((93 : UInt8) = 92) by decide, show ¬ ((93 : UInt8) = 123) by decide, show ¬ ((93 : UInt8) = 91) by decide, if_false, if_true]
  simp
theorem bracketA_less {L : List UInt8} {i : Nat} (o : Nat) (h : i < L.length) (hc : L[i] = 93) (ho : o ≠ 0) : bracketA L i o = bracketA L (i + 1) (o - 1) := by
  unfold bracketA
  rw [List.drop_eq_getElem_cons h, hc, bracketL_cons]
  simp only [show ¬ ((93 : UInt8) = 92) by decide, show ¬ ((93 : UInt8) = 123) by decide, show ¬ ((93 : UInt8) = 91) by decide, if_false, if_true, ho]
  rw [map_map_add _ 1 i (i + 1) (by omega)]
theorem bracketA_on {L : List UInt8} {i : Nat} (o : Nat) (h : i < L.length) (h1 : L[i] ≠ 92) (h2 : L[i] ≠ 123) (h3 : L[i] ≠ 91) (h4 : L[i] ≠ 93) : bracketA L i o = bracketA L (i + 1) o := by
  unfold bracketA
  rw [List.drop_eq_getElem_cons h, bracketL_cons]
  simp only [h1, h2, h3, h4, if_false]
  rw [map_map_add _ 1 i (i + 1) (by omega)]
theorem braceA_lt {L : List UInt8} {i o k : Nat} (h : braceA L i o = some k) : i ≤ k ∧ k < L.length := by
  unfold braceA at h
  rw [Option.map_eq_some_iff] at h
  obtain ⟨j, hj, rfl⟩ := h
  have := braceL_lt _ _ o j (Nat.le_refl _) hj
  rw [List.length_drop] at this
  omega
theorem bracketA_lt {L : List UInt8} {i o k : Nat} (h : bracketA L i o = some k) : i ≤ k ∧ k < L.length := by
  unfold bracketA at h
  rw [Option.map_eq_some_iff] at h
  obtain ⟨j, hj, rfl⟩ := h
  have := bracketL_lt _ _ o j (Nat.le_refl _) hj
  rw [List.length_drop] at this
  omega

/- how great things become -/
def smallP (n : Nat) (p : CPart) : Prop := p.pos ≤ n ∧ p.s.length ≤ n ∧ p.kind ≤ 4 ∧ p.n ≤ 9
def smallPs (n : Nat) (ps : List CPart) : Prop := ps.length ≤ n ∧ ∀ p ∈ ps, smallP n p
def smallW (n : Nat) (w : CWord) : Prop := w.pos ≤ n ∧ smallPs n w.parts
def smallC (n : Nat) (c : CCmd) : Prop := c.pos ≤ n ∧ c.words.length ≤ n ∧ ∀ w ∈ c.words, smallW n w
def smallL (n : Nat) (l : List CCmd) : Prop := l.length ≤ n ∧ ∀ c ∈ l, smallC n c
theorem smallP.mono {n m : Nat} {p : CPart} (h : smallP n p) (hm : n ≤ m) : smallP m p := ⟨Nat.le_trans h.1 hm, Nat.le_trans h.2.1 hm, h.2.2⟩
theorem smallPs.mono {n m : Nat} {ps : List CPart} (h : smallPs n ps) (hm : n ≤ m) : smallPs m ps := ⟨Nat.le_trans h.1 hm, fun p hp => (h.2 p hp).mono hm⟩
theorem smallW.mono {n m : Nat} {w : CWord} (h : smallW n w) (hm : n ≤ m) : smallW m w := ⟨Nat.le_trans h.1 hm, h.2.mono hm⟩
theorem smallC.mono {n m : Nat} {c : CCmd} (h : smallC n c) (hm : n ≤ m) : smallC m c := ⟨Nat.le_trans h.1 hm, Nat.le_trans h.2.1 hm, fun w hw => (h.2.2 w hw).mono hm⟩
theorem takeWhile_le (f : UInt8 → Bool) (l : List UInt8) : (l.takeWhile f).length ≤ l.length := (List.takeWhile_prefix f).length_le
theorem part_small {i : Nat} {c : UInt8} {t : List UInt8} {p : CPart} {n : Nat} (h : partL i c t = .ok p n) : p.pos = i ∧ p.s.length ≤ n ∧ p.kind ≤ 4 ∧ p.n ≤ 9 ∧ (p.kind = 1 → p.n = 0) := by
  unfold partL dollarL at h
  repeat' split at h
  all_goals first
    | (cases h; done)
    | (simp only [PartR.ok.injEq] at h
       obtain ⟨rfl, rfl⟩ := h
       refine ⟨rfl, ?_, ?_, ?_, ?_⟩
       · simp only [List.length_cons, List.length_nil, List.length_take]; omega
       · simp
       · first
         | (simp; done)
         | (rename_i hd; have := UInt8.le_iff_toNat_le.1 hd.2; simp at this ⊢; omega)
       · simp)
theorem merge_small {n m : Nat} {acc : List CPart} {p : CPart} {i k : Nat} (h : smallPs n acc) (hp : p.pos ≤ n ∧ p.s.length ≤ k ∧ p.kind ≤ 4 ∧ p.n ≤ 9) (hk : 1 ≤ k) : smallPs (n + k) (mergeP acc p) := by
  have hs : smallP (n + k) p := ⟨by omega, by omega, hp.2.2⟩
  unfold mergeP
  split
  · rename_i q hq
    have hq' := List.mem_of_getLast? hq
    split
    · refine ⟨?_, fun x hx => ?_⟩
      · have := h.1
        simp only [List.length_append, List.length_dropLast, List.length_cons, List.length_nil]
        have : acc.length ≠ 0 := fun h0 => by
          have := List.eq_nil_of_length_eq_zero h0
          subst this
          cases hq'
        omega
      · rcases List.mem_append.1 hx with hx | hx
        · exact (h.2 x ((List.dropLast_sublist acc).subset hx)).mono (by omega)
        · simp only [List.mem_singleton] at hx
          subst hx
          have := h.2 q hq'
          exact ⟨by have := this.1; simp; omega, by have := this.2.1; simp only [List.length_append]; omega, by simp, this.2.2.2⟩
    · refine ⟨by have := h.1; simp only [List.length_append, List.length_cons, List.length_nil]; omega, fun x hx => ?_⟩
      rcases List.mem_append.1 hx with hx | hx
      · exact (h.2 x hx).mono (by omega)
      · simp only [List.mem_singleton] at hx
        subst hx
        exact hs
  · exact ⟨by simp; omega, fun x hx => by simp only [List.mem_singleton] at hx; subst hx; exact hs⟩
/-- Parts end at a place of the source, and are small. -/
theorem parts_small (e : UInt8 → Bool) : ∀ (m i : Nat) (l : List UInt8) (acc ps : List CPart) (j : Nat) (r : List UInt8), l.length ≤ m → smallPs i acc → partsL e i l acc = .ok ps j r → smallPs j ps ∧ j + r.length ≤ i + l.length ∧ i ≤ j ∧ r = l.drop (j - i)
  | m, i, [], acc, ps, j, r, _, ha, h => by
    rw [partsL_nil] at h
    simp only [PsR.ok.injEq] at h
    obtain ⟨rfl, rfl, rfl⟩ := h
    exact ⟨ha, Nat.le_refl _, Nat.le_refl _, by simp⟩
  | 0, i, c :: t, acc, ps, j, r, hm, ha, h => by simp at hm
  | m + 1, i, c :: t, acc, ps, j, r, hm, ha, h => by
    rw [partsL_cons] at h
    split at h
    · simp only [PsR.ok.injEq] at h
      obtain ⟨rfl, rfl, rfl⟩ := h
      exact ⟨ha, Nat.le_refl _, Nat.le_refl _, by simp⟩
    · split at h
      · cases h
      · rename_i p n hp
        have h1 := part_small hp
        have h2 := partL_pos hp
        have h3 := part_le hp
        simp only [List.length_cons] at hm
        have h4 := merge_small (m := 0) (i := 0) (k := n) ha ⟨by omega, h1.2.1, h1.2.2.1, h1.2.2.2.1⟩ h2
        obtain ⟨g1, g2, g3, g4⟩ := parts_small e m _ _ _ _ _ _ (by rw [List.length_drop]; simp; omega) h4 h
        rw [List.length_drop] at g2
        simp only [List.length_cons] at g2 ⊢
        refine ⟨g1, by omega, by omega, ?_⟩
        rw [g4, List.drop_drop]
        congr 1
        omega
theorem word_small {i : Nat} {c : UInt8} {t : List UInt8} {w : CWord} {j : Nat} {r : List UInt8} (h : wordL i (c :: t) = .ok w j r) : smallW j w ∧ w.pos = i ∧ i ≤ j ∧ j + r.length ≤ i + (c :: t).length ∧ r = (c :: t).drop (j - i) := by
  have plain : ∀ l, plainW i l = .ok w j r → smallW j w ∧ w.pos = i ∧ i ≤ j ∧ j + r.length ≤ i + l.length ∧ r = l.drop (j - i) := by
    intro l h
    unfold plainW at h
    split at h
    · cases h
    · rename_i ps j' r' hps
      simp only [WdR.ok.injEq] at h
      obtain ⟨rfl, rfl, rfl⟩ := h
      obtain ⟨h1, h2, h3, h4⟩ := parts_small endB _ _ _ _ _ _ _ (Nat.le_refl _) ⟨Nat.zero_le _, fun p hp => by cases hp⟩ hps
      exact ⟨⟨h3, h1⟩, rfl, h3, h2, h4⟩
  rw [wordL] at h
  split at h
  · unfold bracedW at h
    split at h
    · cases h
    · rename_i k hk
      obtain ⟨rfl, rfl, rfl, _⟩ := tailW_ok h
      have h1 := braceL_lt _ _ _ _ (Nat.le_refl _) hk
      refine ⟨⟨by simp; omega, by simp, fun p hp => ?_⟩, rfl, by omega, by simp only [List.length_drop, List.length_cons]; omega, ?_⟩
      · simp only [List.mem_singleton] at hp
        subst hp
        exact ⟨by simp; omega, by simp only [List.length_take]; omega, by simp, by simp⟩
      · rw [show i + 1 + k + 1 - i = (k + 1) + 1 by omega]
        rfl
  · split at h
    · unfold quotedW at h
      split at h
      · cases h
      · rename_i ps j' r' hps
        split at h
        · cases h
        · rename_i hr
          obtain ⟨rfl, rfl, rfl, _⟩ := tailW_ok h
          obtain ⟨h1, h2, h3, h4⟩ := parts_small quoB _ _ _ _ _ _ _ (Nat.le_refl _) ⟨Nat.zero_le _, fun p hp => by cases hp⟩ hps
          refine ⟨⟨by simp; omega, ?_⟩, rfl, by omega, by simp only [List.length_drop, List.length_cons]; omega, ?_⟩
          · show smallPs (j' + 1) (if ps.length = 0 then _ else ps)
            split
            · exact ⟨by simp, fun p hp => by simp only [List.mem_singleton] at hp; subst hp; exact ⟨by simp; omega, by simp, by simp, by simp⟩⟩
            · exact h1.mono (by omega)
          · rw [h4, List.drop_drop, show j' + 1 - i = (j' - (i + 1) + 1) + 1 by omega]
            rfl
    · exact plain _ h
theorem flush_small {n : Nat} {ws : List CWord} {out : List CCmd} (hw : ws.length ≤ n ∧ ∀ w ∈ ws, smallW n w) (ho : ∀ c ∈ out, smallC n c) : ∀ c ∈ flushC ws out, smallC n c := by
  unfold flushC
  split
  · exact ho
  · rename_i w t
    intro c hc
    rcases List.mem_append.1 hc with hc | hc
    · exact ho c hc
    · simp only [List.mem_singleton] at hc
      subst hc
      exact ⟨(hw.2 w (List.mem_cons_self ..)).1, hw.1, hw.2⟩
theorem flush_len (ws : List CWord) (out : List CCmd) : (flushC ws out).length ≤ out.length + 1 := by
  unfold flushC
  split
  · omega
  · simp
theorem scan_small : ∀ (m i : Nat) (l : List UInt8) (ws : List CWord) (out res : List CCmd), l.length ≤ m → out.length ≤ i → ws.length ≤ i → (∀ w ∈ ws, smallW i w) → (∀ c ∈ out, smallC i c) → scanL i l ws out = .ok res → smallL (i + l.length + 1) res
  | m, i, [], ws, out, res, _, ho, hl, hw, hc, h => by
    rw [scanL_nil] at h
    simp only [ScR.ok.injEq] at h
    subst h
    exact ⟨by have := flush_len ws out; simp; omega, fun c hx => (flush_small ⟨hl, hw⟩ hc c hx).mono (by simp)⟩
  | 0, i, c :: t, ws, out, res, hm, _, _, _, _, _ => by simp at hm
  | m + 1, i, c :: t, ws, out, res, hm, ho, hl, hw, hc, h => by
    simp only [List.length_cons] at hm ⊢
    rw [scanL_cons] at h
    split at h
    · have := scan_small m (i + 1) t [] (flushC ws out) res (by omega) (by have := flush_len ws out; omega) (Nat.zero_le _) (fun w hw => by cases hw) (fun c hx => (flush_small ⟨hl, hw⟩ hc c hx).mono (by omega)) h
      exact ⟨by have := this.1; omega, fun c hx => (this.2 c hx).mono (by omega)⟩
    · split at h
      · have := scan_small m (i + 1) t ws out res (by omega) (by omega) (by omega) (fun w hx => (hw w hx).mono (by omega)) (fun c hx => (hc c hx).mono (by omega)) h
        exact ⟨by have := this.1; omega, fun c hx => (this.2 c hx).mono (by omega)⟩
      · split at h
        · have hle := toLine_le t
          have := scan_small m (i + 1 + (t.length - (toLine t).length)) (toLine t) ws out res (by omega) (by omega) (by omega) (fun w hx => (hw w hx).mono (by omega)) (fun c hx => (hc c hx).mono (by omega)) h
          exact ⟨by have := this.1; omega, fun c hx => (this.2 c hx).mono (by omega)⟩
        · split at h
          · cases h
          · rename_i h1 h2 _ _ w j r hwd
            have hlt := wordL_lt hwd (endB_false h1 h2)
            obtain ⟨g1, g2, g3, g4, g5⟩ := word_small hwd
            simp only [List.length_cons] at hlt g4
            have hij : i + 1 ≤ j := by
              rw [g5, List.length_drop] at hlt
              simp only [List.length_cons] at hlt
              omega
            have := scan_small m j r (ws ++ [w]) out res (by omega) (by omega) (by simp; omega) (fun x hx => by
              rcases List.mem_append.1 hx with hx | hx
              · exact (hw x hx).mono (by omega)
              · simp only [List.mem_singleton] at hx
                subst hx
                exact g1) (fun c hx => (hc c hx).mono (by omega)) h
            exact ⟨by have := this.1; omega, fun c hx => (this.2 c hx).mono (by omega)⟩
end Go.Proofs.YtlhpflilpdceiaaDoor
