/- Chapter 14's laws, with no program in sight: two sources behind one another; braces and brackets in one another; a text between braces. No condition. -/
import Derived.Test.YtlhpflilpdceiaaDoorScanL
set_option linter.unusedVariables false
set_option linter.unusedSimpArgs false
namespace Go.Proofs.YtlhpflilpdceiaaDoor

theorem part_le {i : Nat} {c : UInt8} {t : List UInt8} {p : CPart} {n : Nat} (h : partL i c t = .ok p n) : n ≤ 1 + t.length := by
  unfold partL at h
  split at h
  · split at h
    · simp only [PartR.ok.injEq] at h; simp; omega
    · simp only [PartR.ok.injEq] at h; simp only [List.length_cons]; omega
  · split at h
    · unfold dollarL at h
      have := runL_le t
      split at h
      · split at h
        · cases h
        · simp only [PartR.ok.injEq] at h; omega
      · split at h
        · simp only [PartR.ok.injEq] at h; omega
        · simp only [List.length_cons]
          split at h
          · simp only [PartR.ok.injEq] at h; omega
          · split at h
            · simp only [PartR.ok.injEq] at h; omega
            · simp only [PartR.ok.injEq] at h; omega
    · split at h
      · split at h
        · cases h
        · rename_i k hk
          have := bracketL_lt _ t 0 k (Nat.le_refl _) hk
          simp only [PartR.ok.injEq] at h; omega
      · simp only [PartR.ok.injEq] at h; omega
theorem part_on {i : Nat} {c : UInt8} {t y : List UInt8} {p : CPart} {n : Nat} (h : partL i c t = .ok p n) (hc : c ≠ 92) (hy : ended y = true) : partL i c (t ++ y) = .ok p n :=
  part_ended (y := []) (by rw [List.append_nil]; exact h) (part_le h) rfl hy (.inr hc)
theorem parts_on {e : UInt8 → Bool} {y : List UInt8} (hy : ended y = true) (he : ∀ (i : Nat) (acc : List CPart), partsL e i y acc = .ok acc i y ∨ ∃ v : Unit, e = quoB) : ∀ (m i : Nat) (x : List UInt8) (acc ps : List CPart) (j : Nat) (r : List UInt8), x.length ≤ m → (∀ c ∈ x, c ≠ 92) → partsL e i x acc = .ok ps j r → (e = quoB → r ≠ []) →
    partsL e i (x ++ y) acc = .ok ps j (r ++ y) ∧ r <:+ x ∧ j + r.length = i + x.length
  | m, i, [], acc, ps, j, r, _, _, h, hq => by
    rw [partsL_nil] at h
    simp only [PsR.ok.injEq] at h
    obtain ⟨rfl, rfl, rfl⟩ := h
    rcases he i acc with he | ⟨_, he⟩
    · exact ⟨he, List.suffix_refl _, rfl⟩
    · exact absurd rfl (hq he)
  | 0, i, c :: t, acc, ps, j, r, hm, _, _, _ => by simp at hm
  | m + 1, i, c :: t, acc, ps, j, r, hm, hc, h, hq => by
    simp only [List.length_cons] at hm
    rw [partsL_cons] at h
    rw [List.cons_append, partsL_cons]
    split at h
    · rename_i hec
      simp only [PsR.ok.injEq] at h
      obtain ⟨rfl, rfl, rfl⟩ := h
      rw [if_pos hec]
      exact ⟨rfl, List.suffix_refl _, rfl⟩
    · rename_i hec
      rw [if_neg hec]
      split at h
      · cases h
      · rename_i p n hp
        have h1 := partL_pos hp
        have h2 := part_le hp
        rw [part_on hp (hc c (by simp)) hy]
        simp only
        rw [← List.cons_append, List.drop_append_of_le_length (by simp only [List.length_cons]; omega)]
        obtain ⟨g1, g2, g3⟩ := parts_on hy he m (i + n) ((c :: t).drop n) _ ps j r (by rw [List.length_drop, List.length_cons]; omega) (fun d hd => hc d (List.mem_of_mem_drop hd)) h hq
        refine ⟨g1, g2.trans (List.drop_suffix _ _), ?_⟩
        rw [g3, List.length_drop, List.length_cons]
        omega
theorem ended_app {r y : List UInt8} (h : ended r = true) (hy : ended y = true) : ended (r ++ y) = true := by
  cases r with
  | nil => exact hy
  | cons c t => exact h
theorem word_on {i : Nat} {c : UInt8} {t y : List UInt8} {w : CWord} {j : Nat} {r : List UInt8} (hy : ended y = true) (hc : ∀ d ∈ c :: t, d ≠ 92) (h : wordL i (c :: t) = .ok w j r) :
    wordL i (c :: t ++ y) = .ok w j (r ++ y) ∧ r <:+ c :: t ∧ j + r.length = i + (c :: t).length := by
  rw [wordL] at h
  rw [List.cons_append, wordL]
  split at h
  · rename_i h1
    rw [if_pos h1]
    unfold bracedW at h ⊢
    split at h
    · cases h
    · rename_i k hk
      have hlt := braceL_lt _ t 0 k (Nat.le_refl _) hk
      rw [braceL_ext _ t y 0 k (Nat.le_refl _) hk]
      simp only
      rw [List.drop_append_of_le_length (by omega), List.take_append_of_le_length (by omega)]
      obtain ⟨rfl, rfl, rfl, he⟩ := tailW_ok h
      rw [tailW, if_pos (ended_app he hy)]
      refine ⟨rfl, (List.drop_suffix _ _).trans (List.suffix_cons _ _), ?_⟩
      rw [List.length_drop, List.length_cons]
      omega
  · rename_i h1
    rw [if_neg h1]
    split at h
    · rename_i h2
      rw [if_pos h2]
      unfold quotedW at h ⊢
      split at h
      · cases h
      · rename_i ps j' r' hps
        split at h
        · cases h
        · rename_i hr
          obtain ⟨rfl, rfl, rfl, he⟩ := tailW_ok h
          obtain ⟨g1, g2, g3⟩ := parts_on hy (fun _ _ => .inr ⟨(), rfl⟩) _ (i + 1) t [] ps j' r' (Nat.le_refl _) (fun d hd => hc d (List.mem_cons_of_mem _ hd)) hps (fun _ h0 => hr (by rw [h0]; rfl))
          rw [g1]
          simp only
          rw [if_neg (by rw [List.length_append]; omega), List.drop_append_of_le_length (by omega), tailW, if_pos (ended_app he hy)]
          refine ⟨rfl, ((List.drop_suffix _ _).trans g2).trans (List.suffix_cons _ _), ?_⟩
          rw [List.length_drop, List.length_cons]
          omega
    · rename_i h2
      rw [if_neg h2]
      unfold plainW at h ⊢
      split at h
      · cases h
      · rename_i ps j' r' hps
        simp only [WdR.ok.injEq] at h
        obtain ⟨rfl, rfl, rfl⟩ := h
        have hy2 : ∀ (i : Nat) (acc : List CPart), partsL endB i y acc = .ok acc i y := fun i acc => by
          cases y with
          | nil => rw [partsL_nil]
          | cons d u =>
            have hy3 : endB d = true := hy
            rw [partsL_cons, if_pos hy3]
        obtain ⟨g1, g2, g3⟩ := parts_on hy (fun i acc => .inl (hy2 i acc)) _ i (c :: t) [] ps j' r' (Nat.le_refl _) hc hps (fun h => absurd (congrFun h 34) (by decide))
        rw [← List.cons_append, g1]
        exact ⟨rfl, g2, g3⟩
theorem scan_on (sep : UInt8) (u : List UInt8) (hsep : sep = 59 ∨ sep = 10) : ∀ (m i : Nat) (x : List UInt8) (ws : List CWord) (out a : List CCmd), x.length ≤ m → (∀ c ∈ x, c ≠ 92 ∧ c ≠ 35) → scanL i x ws out = .ok a → scanL i (x ++ sep :: u) ws out = scanL (i + x.length + 1) u [] a
  | m, i, [], ws, out, a, _, _, h => by
    rw [scanL_nil] at h
    injection h with h
    subst h
    rw [List.nil_append, scanL_cons, if_pos hsep]
    rfl
  | 0, i, c :: t, ws, out, a, hm, _, _ => by simp at hm
  | m + 1, i, c :: t, ws, out, a, hm, hc, h => by
    simp only [List.length_cons] at hm ⊢
    rw [scanL_cons] at h
    rw [List.cons_append, scanL_cons]
    have hct : ∀ d ∈ t, d ≠ 92 ∧ d ≠ 35 := fun d hd => hc d (List.mem_cons_of_mem _ hd)
    split at h
    · rename_i h1
      rw [if_pos h1, scan_on sep u hsep m (i + 1) t [] _ a (by omega) hct h]
      rw [show i + 1 + t.length + 1 = i + (t.length + 1) + 1 by omega]
    · rename_i h1
      rw [if_neg h1]
      split at h
      · rename_i h2
        rw [if_pos h2, scan_on sep u hsep m (i + 1) t ws _ a (by omega) hct h]
        rw [show i + 1 + t.length + 1 = i + (t.length + 1) + 1 by omega]
      · rename_i h2
        rw [if_neg h2]
        rw [if_neg (fun h => (hc c (by simp)).2 h.1)] at h ⊢
        split at h
        · cases h
        · rename_i w j r hw
          have hsy : ended (sep :: u) = true := by
            rcases hsep with rfl | rfl <;> rfl
          obtain ⟨g1, g2, g3⟩ := word_on hsy (fun d hd => (hc d hd).1) hw
          rw [← List.cons_append, g1]
          simp only
          have hlt := wordL_lt hw (endB_false h1 h2)
          simp only [List.length_cons] at hlt g3
          rw [scan_on sep u hsep m j r _ _ a (by omega) (fun d hd => hc d (g2.subset hd)) h]
          rw [show j + r.length + 1 = i + (t.length + 1) + 1 by omega]
/-- Two sources behind one another. -/
theorem scan_both (sep : UInt8) (s t : List UInt8) (a b : List CCmd) (hsep : sep = 59 ∨ sep = 10) (hs : ∀ c ∈ s, c ≠ 92 ∧ c ≠ 35) (ha : scanL 0 s [] [] = .ok a) (hb : scanL 0 t [] [] = .ok b) : scanL 0 (s ++ sep :: t) [] [] = .ok (a ++ b.map (shC (s.length + 1))) := by
  rw [scan_on sep t hsep _ 0 s [] [] a (Nat.le_refl _) hs ha]
  have h1 := scan_onto a _ (0 + s.length + 1) t [] [] (Nat.le_refl _)
  rw [List.append_nil] at h1
  rw [h1]
  have h2 := scan_sh (s.length + 1) _ 0 t [] [] (Nat.le_refl _)
  rw [List.map_nil, List.map_nil, hb, show 0 + (s.length + 1) = 0 + s.length + 1 by omega] at h2
  rw [h2]
  rfl

/- braces in braces -/
def plainB (c : UInt8) : Bool := decide (c ≠ 123) && decide (c ≠ 125) && decide (c ≠ 91) && decide (c ≠ 93) && decide (c ≠ 92)
theorem brace_open (n : Nat) : ∀ (o : Nat) (y : List UInt8), braceL o (List.replicate n 123 ++ y) = (braceL (o + n) y).map (· + n) := by
  induction n with
  | zero => intro o y; simp
  | succ n ih =>
    intro o y
    rw [List.replicate_succ, List.cons_append, braceL.eq_def]
    simp only
    rw [if_neg (by decide), if_pos (by trivial), ih, Option.map_map, show o + 1 + n = o + (n + 1) by omega]
    congr 1
theorem brace_shut (n : Nat) : ∀ (o : Nat) (y : List UInt8), braceL (o + n) (List.replicate n 125 ++ y) = (braceL o y).map (· + n) := by
  induction n with
  | zero => intro o y; simp
  | succ n ih =>
    intro o y
    rw [List.replicate_succ, List.cons_append, braceL.eq_def]
    simp only
    rw [if_neg (by decide), if_neg (by decide), if_pos (by trivial), if_neg (by omega), show o + (n + 1) - 1 = o + n by omega, ih, Option.map_map]
    congr 1
theorem brace_plain : ∀ (s : List UInt8) (o : Nat) (y : List UInt8), s.all plainB = true → braceL o (s ++ y) = (braceL o y).map (· + s.length)
  | [], o, y, _ => by simp
  | c :: t, o, y, h => by
    simp only [List.all_cons, Bool.and_eq_true, plainB, decide_eq_true_eq] at h
    obtain ⟨⟨⟨⟨⟨h1, h2⟩, _⟩, _⟩, h5⟩, ht⟩ := h
    rw [List.cons_append, braceL.eq_def]
    simp only
    rw [if_neg h5, if_neg h1, if_neg h2, brace_plain t o y (by rw [List.all_eq_true] at ht ⊢; intro x hx; have := ht x hx; simpa [plainB, and_assoc] using this), Option.map_map]
    congr 1
theorem bracket_open (n : Nat) : ∀ (o : Nat) (y : List UInt8), bracketL o (List.replicate n 91 ++ y) = (bracketL (o + n) y).map (· + n) := by
  induction n with
  | zero => intro o y; simp
  | succ n ih =>
    intro o y
    rw [List.replicate_succ, List.cons_append, bracketL_cons]
    rw [if_neg (by decide), if_neg (by decide), if_pos rfl, ih, Option.map_map, show o + 1 + n = o + (n + 1) by omega]
    congr 1
theorem bracket_shut (n : Nat) : ∀ (o : Nat) (y : List UInt8), bracketL (o + n) (List.replicate n 93 ++ y) = (bracketL o y).map (· + n) := by
  induction n with
  | zero => intro o y; simp
  | succ n ih =>
    intro o y
    rw [List.replicate_succ, List.cons_append, bracketL_cons]
    rw [if_neg (by decide), if_neg (by decide), if_neg (by decide), if_pos rfl, if_neg (by omega), show o + (n + 1) - 1 = o + n by omega, ih, Option.map_map]
    congr 1
theorem bracket_plain : ∀ (s : List UInt8) (o : Nat) (y : List UInt8), s.all plainB = true → bracketL o (s ++ y) = (bracketL o y).map (· + s.length)
  | [], o, y, _ => by simp
  | c :: t, o, y, h => by
    simp only [List.all_cons, Bool.and_eq_true, plainB, decide_eq_true_eq] at h
    obtain ⟨⟨⟨⟨⟨h1, h2⟩, h3⟩, h4⟩, h5⟩, ht⟩ := h
    rw [List.cons_append, bracketL_cons]
    rw [if_neg h5, if_neg h1, if_neg h3, if_neg h4, bracket_plain t o y (by rw [List.all_eq_true] at ht ⊢; intro x hx; have := ht x hx; simpa [plainB, and_assoc] using this), Option.map_map]
    congr 1
def inB (n : Nat) (a b : UInt8) (s : List UInt8) : List UInt8 := List.replicate n a ++ s ++ List.replicate n b
theorem inB_len (n : Nat) (a b : UInt8) (s : List UInt8) : (inB n a b s).length = n + s.length + n := by simp [inB]; omega
theorem brace_in (n : Nat) (s y : List UInt8) (o : Nat) (h : s.all plainB = true) : braceL o (inB n 123 125 s ++ y) = (braceL o y).map (· + (inB n 123 125 s).length) := by
  rw [inB_len, inB, List.append_assoc, List.append_assoc, brace_open, brace_plain s _ _ h, brace_shut, Option.map_map, Option.map_map]
  congr 1
  funext k
  simp only [Function.comp]
  omega
theorem bracket_in (n : Nat) (s y : List UInt8) (o : Nat) (h : s.all plainB = true) : bracketL o (inB n 91 93 s ++ y) = (bracketL o y).map (· + (inB n 91 93 s).length) := by
  rw [inB_len, inB, List.append_assoc, List.append_assoc, bracket_open, bracket_plain s _ _ h, bracket_shut, Option.map_map, Option.map_map]
  congr 1
  funext k
  simp only [Function.comp]
  omega
theorem take_own (l : List UInt8) (y : List UInt8) : (l ++ y).take l.length = l := by simp
theorem drop_own (l : List UInt8) (c : UInt8) (y : List UInt8) : (l ++ c :: y).drop (l.length + 1) = y := by simp [List.drop_append]
theorem scan_brace (n : Nat) (s : List UInt8) (h : s.all plainB = true) : scanL 0 (123 :: (inB n 123 125 s ++ [125])) [] [] = .ok [⟨0, [⟨0, true, [⟨1, 1, 0, inB n 123 125 s⟩]⟩]⟩] := by
  have hb : braceL 0 (inB n 123 125 s ++ [125]) = some (inB n 123 125 s).length := by
    rw [brace_in n s [125] 0 h]
    simp [braceL]
  rw [scanL_cons, if_neg (by decide), if_neg (by decide), if_neg (by decide), wordL, if_pos rfl, bracedW, hb]
  simp only
  rw [take_own, drop_own, tailW, if_pos (by rfl)]
  simp only
  rw [scanL_nil]
  rfl
theorem scan_bracket (n : Nat) (s : List UInt8) (h : s.all plainB = true) : scanL 0 (91 :: (inB n 91 93 s ++ [93])) [] [] = .ok [⟨0, [⟨0, false, [⟨3, 0, 0, inB n 91 93 s⟩]⟩]⟩] := by
  have hb : bracketL 0 (inB n 91 93 s ++ [93]) = some (inB n 91 93 s).length := by
    rw [bracket_in n s [93] 0 h, bracketL_cons]
    simp
  have hp : partL 0 91 (inB n 91 93 s ++ [93]) = .ok ⟨3, 0, 0, inB n 91 93 s⟩ ((inB n 91 93 s).length + 2) := by
    rw [partL.eq_def, if_neg (by decide), if_neg (by decide), if_pos rfl, hb]
    simp only
    rw [take_own]
  rw [scanL_cons, if_neg (by decide), if_neg (by decide), if_neg (by decide), wordL, if_neg (by decide), if_neg (by decide), plainW, partsL_cons, if_neg (by decide), hp]
  simp only
  rw [List.drop_succ_cons, drop_own, partsL_nil]
  simp only
  rw [scanL_nil]
  rfl
theorem scan_brace_open (n : Nat) (s : List UInt8) (h : s.all plainB = true) : scanL 0 (123 :: inB n 123 125 s) [] [] = .err 5 0 := by
  have hb : braceL 0 (inB n 123 125 s) = none := by
    have := brace_in n s [] 0 h
    rw [List.append_nil] at this
    rw [this]
    rfl
  rw [scanL_cons, if_neg (by decide), if_neg (by decide), if_neg (by decide), wordL, if_pos rfl, bracedW, hb]
theorem x_word (y : List UInt8) (hy : ended y = true) : wordL 0 (120 :: y) = .ok ⟨0, false, [⟨1, 0, 0, [120]⟩]⟩ 1 y := by
  rw [wordL, if_neg (by decide), if_neg (by decide), plainW, partsL_cons, if_neg (by decide)]
  have hp : partL 0 120 y = .ok ⟨1, 0, 0, [120]⟩ 1 := by rw [partL.eq_def, if_neg (by decide), if_neg (by decide), if_neg (by decide)]
  rw [hp]
  have hm : mergeP [] ⟨1, 0, 0, [120]⟩ = [⟨1, 0, 0, [120]⟩] := rfl
  simp only [hm, List.drop_succ_cons, List.drop_zero]
  cases y with
  | nil => rw [partsL_nil]
  | cons c u =>
    have hy2 : endB c = true := hy
    rw [partsL_cons, if_pos hy2]
theorem y_word (d : Nat) : wordL d [121] = .ok ⟨d, false, [⟨1, d, 0, [121]⟩]⟩ (d + 1) [] := by
  rw [wordL, if_neg (by decide), if_neg (by decide), plainW, partsL_cons, if_neg (by decide)]
  have hp : partL d 121 [] = .ok ⟨1, d, 0, [121]⟩ 1 := by rw [partL.eq_def, if_neg (by decide), if_neg (by decide), if_neg (by decide)]
  rw [hp]
  have hm : mergeP [] ⟨1, d, 0, [121]⟩ = [⟨1, d, 0, [121]⟩] := rfl
  simp only [hm, List.drop_succ_cons, List.drop_zero]
  rw [partsL_nil]
theorem x_scan (y : List UInt8) (ws : CWord) (hw : ws = ⟨0, false, [⟨1, 0, 0, [120]⟩]⟩) : scanL 0 (120 :: 32 :: y) [] [] = scanL 2 y [ws] [] := by
  subst hw
  rw [scanL_cons, if_neg (by decide), if_neg (by decide), if_neg (by decide), x_word _ rfl]
  simp only [List.nil_append]
  rw [scanL_cons, if_neg (by decide), if_pos (by decide)]
theorem scan_bracket_open (n : Nat) (s : List UInt8) (h : s.all plainB = true) : scanL 0 (120 :: 32 :: 91 :: inB n 91 93 s) [] [] = .err 4 2 := by
  have hb : bracketL 0 (inB n 91 93 s) = none := by
    have := bracket_in n s [] 0 h
    rw [List.append_nil] at this
    rw [this]
    rfl
  have hp : partL 2 91 (inB n 91 93 s) = .err 4 2 := by
    rw [partL.eq_def, if_neg (by decide), if_neg (by decide), if_pos rfl, hb]
  rw [x_scan _ _ rfl, scanL_cons, if_neg (by decide), if_neg (by decide), if_neg (by decide), wordL, if_neg (by decide), if_neg (by decide), plainW, partsL_cons, if_neg (by decide), hp]

/- a text between braces -/
theorem scan_keeps : ∀ (m i : Nat) (l : List UInt8) (w : CWord) (ws : List CWord) (out res : List CCmd), l.length ≤ m → scanL i l (w :: ws) out = .ok res → ∃ ws' rest, res = out ++ ⟨w.pos, w :: (ws ++ ws')⟩ :: rest
  | m, i, [], w, ws, out, res, _, h => by
    rw [scanL_nil] at h
    injection h with h
    subst h
    exact ⟨[], [], by simp [flushC]⟩
  | 0, i, c :: t, w, ws, out, res, hm, _ => by simp at hm
  | m + 1, i, c :: t, w, ws, out, res, hm, h => by
    simp only [List.length_cons] at hm
    rw [scanL_cons] at h
    split at h
    · have h2 := scan_onto (flushC (w :: ws) out) _ (i + 1) t [] [] (Nat.le_refl _)
      rw [List.append_nil] at h2
      rw [h2] at h
      cases h3 : scanL (i + 1) t [] [] with
      | err k a => rw [h3] at h; cases h
      | ok l =>
        rw [h3] at h
        injection h with h
        subst h
        exact ⟨[], l, by simp [flushC]⟩
    · split at h
      · exact scan_keeps m _ t w ws out res (by omega) h
      · split at h
        · rename_i h3
          simp at h3
        · split at h
          · cases h
          · rename_i h1 h2 _ _ v j r hw
            have hlt := wordL_lt hw (endB_false h1 h2)
            simp only [List.length_cons] at hlt
            obtain ⟨ws', rest, hr⟩ := scan_keeps m j r w (ws ++ [v]) out res (by omega) h
            exact ⟨v :: ws', rest, by rw [hr]; simp⟩
def fineL (s : List UInt8) : ScR → Bool
  | .ok [⟨_, [_, w, _]⟩] => w.braced && decide (textW w = (s, true))
  | _ => false
def shutB (s : List UInt8) : Bool := decide (braceL 0 (s ++ [125]) = some s.length)
theorem shut_some {s : List UInt8} (y : List UInt8) (h : shutB s = true) : braceL 0 (s ++ 125 :: y) = some s.length := by
  have h1 := braceL_ext _ _ y 0 _ (Nat.le_refl _) (of_decide_eq_true h)
  rwa [List.append_assoc] at h1
theorem shut_none {s y : List UInt8} {k : Nat} (h : shutB s = false) (hk : braceL 0 (s ++ 125 :: y) = some k) : k ≠ s.length := fun he => by
  subst he
  have h2 : s ++ 125 :: y = (s ++ [125]) ++ y := by simp
  rw [h2] at hk
  exact of_decide_eq_false h (braceL_cut _ _ y 0 _ (Nat.le_refl _) hk (by simp))
theorem one_brace (s : List UInt8) : oneL (123 :: (s ++ [125])) = if shutB s then some ⟨0, true, [⟨1, 1, 0, s⟩]⟩ else none := by
  have h1 : s ++ [125] ++ [32] = s ++ 125 :: [32] := by simp
  unfold oneL
  rw [List.cons_append, wordL, if_pos rfl, bracedW, h1]
  cases hb : shutB s with
  | true =>
    rw [shut_some _ hb, if_pos rfl]
    simp only
    rw [take_own, drop_own, tailW, if_pos (show ended [32] = true from rfl)]
    simp only [List.length_cons, List.length_append, List.length_nil]
    rw [if_pos ⟨by omega, by omega⟩]
  | false =>
    rw [if_neg Bool.noConfusion]
    cases hq : braceL 0 (s ++ 125 :: [32]) with
    | none => rfl
    | some k =>
      have hne := shut_none hb hq
      simp only
      generalize ht : tailW _ _ _ = T
      cases T with
      | err a b => rfl
      | ok w j r =>
        obtain ⟨_, rfl, _⟩ := tailW_ok ht
        simp only [List.length_cons, List.length_append, List.length_nil]
        rw [if_neg]
        omega
theorem scan_x_brace (s : List UInt8) : scanL 0 (120 :: 32 :: 123 :: (s ++ [125, 32, 121])) [] [] = (match bracedW 2 (s ++ [125, 32, 121]) with
      | .err k a => ScR.err k a
      | .ok w j r => scanL j r ([⟨0, false, [⟨1, 0, 0, [120]⟩]⟩] ++ [w]) []) := by
  rw [x_scan _ _ rfl, scanL_cons, if_neg (by decide), if_neg (by decide), if_neg (by decide), wordL, if_pos rfl]
  rfl
theorem fine_brace (s : List UInt8) : fineL s (scanL 0 (120 :: 32 :: 123 :: (s ++ [125, 32, 121])) [] []) = shutB s := by
  rw [scan_x_brace, bracedW]
  cases hb : shutB s with
  | true =>
    rw [shut_some _ hb]
    simp only
    rw [take_own, drop_own, tailW, if_pos (show ended [32, 121] = true from rfl)]
    simp only
    rw [scanL_cons, if_neg (by decide), if_pos (by decide), scanL_cons, if_neg (by decide), if_neg (by decide), if_neg (fun h => absurd h.1 (by decide)), y_word]
    simp only
    rw [scanL_nil]
    simp [textW, fineL, flushC]
  | false =>
    cases hq : braceL 0 (s ++ [125, 32, 121]) with
    | none => rfl
    | some k =>
      have hlt := braceL_lt _ _ 0 k (Nat.le_refl _) hq
      have hne := shut_none hb hq
      simp only
      generalize ht : tailW _ _ _ = T
      cases T with
      | err a b => rfl
      | ok w j r =>
        obtain ⟨rfl, rfl, rfl, _⟩ := tailW_ok ht
        simp only
        generalize hs : scanL _ _ _ _ = R
        cases R with
        | err a b => rfl
        | ok res =>
          obtain ⟨ws', rest, rfl⟩ := scan_keeps _ _ _ _ _ _ _ (Nat.le_refl _) hs
          have hne2 : (s ++ [125, 32, 121]).take k ≠ s := fun h => by
            have := congrArg List.length h
            rw [List.length_take] at this
            omega
          unfold fineL
          split
          · rename_i heq
            simp only [List.nil_append, ScR.ok.injEq, List.cons.injEq, CCmd.mk.injEq, List.cons_append] at heq
            obtain ⟨⟨_, _, rfl, _⟩, _⟩ := heq
            simp [textW, hne2]
          · rfl
theorem brace_law (s : List UInt8) : braceT s = if shutB s then (123 :: (s ++ [125]), true) else ([], false) := by
  unfold braceT
  rw [one_brace]
  cases shutB s with
  | false => rfl
  | true =>
    rw [if_pos rfl, if_pos rfl]
    simp [textW]
end Go.Proofs.YtlhpflilpdceiaaDoor
