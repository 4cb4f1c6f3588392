/- Chapter 14's laws, with no program in sight: what is read ahead of an end is read the same whatever stands behind it. No condition. -/
import Derived.Test.YtlhpflilpdceiaaDoorScanM
set_option linter.unusedVariables false
set_option linter.unusedSimpArgs false
namespace Go.Proofs.YtlhpflilpdceiaaDoor

theorem braceL_ext : ∀ (m : Nat) (x y : List UInt8) (o k : Nat), x.length ≤ m → braceL o x = some k → braceL o (x ++ y) = some k
  | m, [], y, o, k, _, h => by simp [braceL] at h
  | 0, c :: t, y, o, k, hm, h => by simp at hm
  | m + 1, c :: t, y, o, k, hm, h => by
    simp only [List.length_cons] at hm
    rw [List.cons_append, braceL.eq_def]
    rw [braceL.eq_def] at h
    simp only at h ⊢
    split at h
    · rw [if_pos (by assumption)]
      cases t with
      | nil => cases h
      | cons d u =>
        simp only [Option.map_eq_some_iff, List.length_cons] at h hm
        obtain ⟨j, hj, rfl⟩ := h
        simp only [List.cons_append, braceL_ext m u y o j (by omega) hj, Option.map_some]
    · rw [if_neg (by assumption)]
      split at h
      · rw [if_pos (by assumption)]
        rw [Option.map_eq_some_iff] at h
        obtain ⟨j, hj, rfl⟩ := h
        rw [braceL_ext m t y _ j (by omega) hj, Option.map_some]
      · rw [if_neg (by assumption)]
        split at h
        · rw [if_pos (by assumption)]
          split at h
          · rw [if_pos (by assumption)]
            exact h
          · rw [if_neg (by assumption)]
            rw [Option.map_eq_some_iff] at h
            obtain ⟨j, hj, rfl⟩ := h
            rw [braceL_ext m t y _ j (by omega) hj, Option.map_some]
        · rw [if_neg (by assumption)]
          rw [Option.map_eq_some_iff] at h
          obtain ⟨j, hj, rfl⟩ := h
          rw [braceL_ext m t y _ j (by omega) hj, Option.map_some]
theorem braceL_cut : ∀ (m : Nat) (x y : List UInt8) (o k : Nat), x.length ≤ m → braceL o (x ++ y) = some k → k < x.length → braceL o x = some k
  | m, [], y, o, k, _, h, hk => by simp at hk
  | 0, c :: t, y, o, k, hm, h, hk => by simp at hm
  | m + 1, c :: t, y, o, k, hm, h, hk => by
    simp only [List.length_cons] at hm hk
    rw [List.cons_append, braceL.eq_def] at h
    rw [braceL.eq_def]
    simp only at h ⊢
    split at h
    · rw [if_pos (by assumption)]
      cases t with
      | nil =>
        cases y with
        | nil => simp at h
        | cons d u =>
          simp only [List.nil_append, Option.map_eq_some_iff] at h
          obtain ⟨j, hj, rfl⟩ := h
          simp only [List.length_nil] at hk
          omega
      | cons d u =>
        simp only [List.cons_append, Option.map_eq_some_iff, List.length_cons] at h hm hk
        obtain ⟨j, hj, rfl⟩ := h
        simp only [braceL_cut m u y o j (by omega) hj (by omega), Option.map_some]
    · rw [if_neg (by assumption)]
      split at h
      · rw [if_pos (by assumption)]
        rw [Option.map_eq_some_iff] at h
        obtain ⟨j, hj, rfl⟩ := h
        rw [braceL_cut m t y _ j (by omega) hj (by omega), Option.map_some]
      · rw [if_neg (by assumption)]
        split at h
        · rw [if_pos (by assumption)]
          split at h
          · rw [if_pos (by assumption)]
            exact h
          · rw [if_neg (by assumption)]
            rw [Option.map_eq_some_iff] at h
            obtain ⟨j, hj, rfl⟩ := h
            rw [braceL_cut m t y _ j (by omega) hj (by omega), Option.map_some]
        · rw [if_neg (by assumption)]
          rw [Option.map_eq_some_iff] at h
          obtain ⟨j, hj, rfl⟩ := h
          rw [braceL_cut m t y _ j (by omega) hj (by omega), Option.map_some]
theorem bracketL_ext : ∀ (m : Nat) (x y : List UInt8) (o k : Nat), x.length ≤ m → bracketL o x = some k → bracketL o (x ++ y) = some k
  | m, [], y, o, k, _, h => by simp [bracketL_nil] at h
  | 0, c :: t, y, o, k, hm, h => by simp at hm
  | m + 1, c :: t, y, o, k, hm, h => by
    simp only [List.length_cons] at hm
    rw [List.cons_append, bracketL_cons]
    rw [bracketL_cons] at h
    split at h
    · rw [if_pos (by assumption)]
      cases t with
      | nil => cases h
      | cons d u =>
        simp only [Option.map_eq_some_iff, List.length_cons] at h hm
        obtain ⟨j, hj, rfl⟩ := h
        simp only [List.cons_append, bracketL_ext m u y o j (by omega) hj, Option.map_some]
    · rw [if_neg (by assumption)]
      split at h
      · rw [if_pos (by assumption)]
        split at h
        · cases h
        · rename_i q hq
          rw [Option.map_eq_some_iff] at h
          obtain ⟨j, hj, rfl⟩ := h
          have hlt := braceL_lt _ t 0 q (Nat.le_refl _) hq
          rw [braceL_ext _ t y 0 q (Nat.le_refl _) hq]
          simp only
          rw [List.drop_append_of_le_length (by omega), bracketL_ext m _ y o j (by rw [List.length_drop]; omega) hj, Option.map_some]
      · rw [if_neg (by assumption)]
        split at h
        · rw [if_pos (by assumption)]
          rw [Option.map_eq_some_iff] at h
          obtain ⟨j, hj, rfl⟩ := h
          rw [bracketL_ext m t y _ j (by omega) hj, Option.map_some]
        · rw [if_neg (by assumption)]
          split at h
          · rw [if_pos (by assumption)]
            split at h
            · rw [if_pos (by assumption)]
              exact h
            · rw [if_neg (by assumption)]
              rw [Option.map_eq_some_iff] at h
              obtain ⟨j, hj, rfl⟩ := h
              rw [bracketL_ext m t y _ j (by omega) hj, Option.map_some]
          · rw [if_neg (by assumption)]
            rw [Option.map_eq_some_iff] at h
            obtain ⟨j, hj, rfl⟩ := h
            rw [bracketL_ext m t y _ j (by omega) hj, Option.map_some]
theorem bracketL_cut : ∀ (m : Nat) (x y : List UInt8) (o k : Nat), x.length ≤ m → bracketL o (x ++ y) = some k → k < x.length → bracketL o x = some k
  | m, [], y, o, k, _, h, hk => by simp at hk
  | 0, c :: t, y, o, k, hm, h, hk => by simp at hm
  | m + 1, c :: t, y, o, k, hm, h, hk => by
    simp only [List.length_cons] at hm hk
    rw [List.cons_append, bracketL_cons] at h
    rw [bracketL_cons]
    split at h
    · rw [if_pos (by assumption)]
      cases t with
      | nil =>
        cases y with
        | nil => simp at h
        | cons d u =>
          simp only [List.nil_append, Option.map_eq_some_iff] at h
          obtain ⟨j, hj, rfl⟩ := h
          simp only [List.length_nil] at hk
          omega
      | cons d u =>
        simp only [List.cons_append, Option.map_eq_some_iff, List.length_cons] at h hm hk
        obtain ⟨j, hj, rfl⟩ := h
        simp only [bracketL_cut m u y o j (by omega) hj (by omega), Option.map_some]
    · rw [if_neg (by assumption)]
      split at h
      · rw [if_pos (by assumption)]
        split at h
        · cases h
        · rename_i q hq
          rw [Option.map_eq_some_iff] at h
          obtain ⟨j, hj, rfl⟩ := h
          rw [braceL_cut _ t y 0 q (Nat.le_refl _) hq (by omega)]
          simp only
          rw [List.drop_append_of_le_length (by omega)] at hj
          rw [bracketL_cut m _ y o j (by rw [List.length_drop]; omega) hj (by rw [List.length_drop]; omega), Option.map_some]
      · rw [if_neg (by assumption)]
        split at h
        · rw [if_pos (by assumption)]
          rw [Option.map_eq_some_iff] at h
          obtain ⟨j, hj, rfl⟩ := h
          rw [bracketL_cut m t y _ j (by omega) hj (by omega), Option.map_some]
        · rw [if_neg (by assumption)]
          split at h
          · rw [if_pos (by assumption)]
            split at h
            · rw [if_pos (by assumption)]
              exact h
            · rw [if_neg (by assumption)]
              rw [Option.map_eq_some_iff] at h
              obtain ⟨j, hj, rfl⟩ := h
              rw [bracketL_cut m t y _ j (by omega) hj (by omega), Option.map_some]
          · rw [if_neg (by assumption)]
            rw [Option.map_eq_some_iff] at h
            obtain ⟨j, hj, rfl⟩ := h
            rw [bracketL_cut m t y _ j (by omega) hj (by omega), Option.map_some]

/- names -/
theorem end_cases {c : UInt8} (h : endB c = true) : c = 32 ∨ c = 9 ∨ c = 10 ∨ c = 59 := by
  simp only [endB, Bool.or_eq_true, decide_eq_true_eq] at h
  rcases h with ((h | h) | h) | h
  · exact .inl h
  · exact .inr (.inl h)
  · exact .inr (.inr (.inl h))
  · exact .inr (.inr (.inr h))
theorem end_notG (c : UInt8) (h : endB c = true) : nameG c = false := by
  rcases end_cases h with rfl | rfl | rfl | rfl <;> decide
theorem end_notB (c : UInt8) (h : endB c = true) : nameB c = false := by
  rcases end_cases h with rfl | rfl | rfl | rfl <;> decide
theorem end_not (c : UInt8) (h : endB c = true) : c ≠ 42 ∧ ¬ (49 ≤ c ∧ c ≤ 57) ∧ c ≠ 92 ∧ c ≠ 36 ∧ c ≠ 91 ∧ c ≠ 123 ∧ c ≠ 34 := by
  rcases end_cases h with rfl | rfl | rfl | rfl <;> decide
theorem takeWhile_ended : ∀ (x y : List UInt8), ended y = true → (x ++ y).takeWhile nameG = x.takeWhile nameG
  | [], [], _ => rfl
  | [], c :: u, h => by
    rw [List.nil_append, List.takeWhile_cons, end_notG c h]
    rfl
  | c :: x, y, h => by
    rw [List.cons_append, List.takeWhile_cons, List.takeWhile_cons, takeWhile_ended x y h]
theorem run_ended (x y : List UInt8) (h : ended y = true) : runL (x ++ y) = runL x := by
  cases x with
  | nil =>
    cases y with
    | nil => rfl
    | cons c u =>
      have h' : endB c = true := h
      show (if nameB c then _ else _) = ([] : List UInt8)
      rw [end_notB c h']; rfl
  | cons c x =>
    rw [List.cons_append, runL, runL, takeWhile_ended x y h]
theorem dollar_ended (i : Nat) (x y : List UInt8) (h : ended y = true) : dollarL i (x ++ y) = dollarL i x := by
  unfold dollarL
  rw [run_ended x y h]
  cases x with
  | cons c x => rfl
  | nil =>
    cases y with
    | nil => rfl
    | cons c u =>
      obtain ⟨h1, h2, _⟩ := end_not c h
      simp only [List.nil_append]
      rw [if_neg h1, if_neg h2]
theorem runL_le (t : List UInt8) : (runL t).length ≤ t.length := by
  cases t with
  | nil => exact Nat.le_refl _
  | cons c t =>
    rw [runL]
    split
    · simp only [List.length_cons]
      have := (List.takeWhile_prefix (l := t) nameG).length_le
      omega
    · exact Nat.zero_le _
/-- A part that lies whole ahead of an end. -/
theorem part_ended {i : Nat} {c : UInt8} {x y y' : List UInt8} {p : CPart} {n : Nat} (h : partL i c (x ++ y) = .ok p n) (hn : n ≤ 1 + x.length) (hy : ended y = true) (hy' : ended y' = true) (hne : y ≠ [] ∨ c ≠ 92) : partL i c (x ++ y') = .ok p n := by
  unfold partL at h ⊢
  split at h
  · rename_i hc
    rw [if_pos hc]
    cases x with
    | nil =>
      cases y with
      | nil => exact absurd hc (hne.resolve_left (fun h => h rfl))
      | cons d u =>
        simp only [List.nil_append, PartR.ok.injEq] at h
        simp only [List.length_nil] at hn
        omega
    | cons d x => exact h
  · rename_i hc
    rw [if_neg hc]
    split at h
    · rename_i hd
      rw [if_pos hd, dollar_ended i x y' hy', ← dollar_ended i x y hy]
      exact h
    · rename_i hd
      rw [if_neg hd]
      split at h
      · rename_i hb
        rw [if_pos hb]
        split at h
        · cases h
        · rename_i k hk
          simp only [PartR.ok.injEq] at h
          obtain ⟨rfl, rfl⟩ := h
          have hk2 := bracketL_cut _ x y 0 k (Nat.le_refl _) hk (by omega)
          rw [bracketL_ext _ x y' 0 k (Nat.le_refl _) hk2]
          have hlt := bracketL_lt _ x 0 k (Nat.le_refl _) hk2
          simp only [PartR.ok.injEq, CPart.mk.injEq, and_true, true_and]
          rw [List.take_append_of_le_length (by omega), List.take_append_of_le_length (by omega)]
      · rename_i hb
        rw [if_neg hb]
        exact h
theorem partsF_ge (e : UInt8 → Bool) {f i : Nat} {l : List UInt8} {acc ps : List CPart} {j : Nat} {r : List UInt8} (h : partsF f e i l acc = .ok ps j r) : i ≤ j := (partsF_len e f i l acc ps j r h).2.1 _ rfl
/-- Parts that end just at an end, whatever stands behind it. -/
theorem parts_ended : ∀ (m i : Nat) (x y y' : List UInt8) (acc ps : List CPart) (j : Nat) (r : List UInt8), x.length ≤ m → ended y = true → ended y' = true → y ≠ [] → partsL endB i (x ++ y) acc = .ok ps j r → j = i + x.length → partsL endB i (x ++ y') acc = .ok ps j y'
  | m, i, [], y, y', acc, ps, j, r, _, hy, hy', hne, h, hj => by
    cases y with
    | nil => exact absurd rfl hne
    | cons d u =>
      have hy2 : endB d = true := hy
      rw [List.nil_append, partsL_cons, if_pos hy2] at h
      simp only [PsR.ok.injEq] at h
      obtain ⟨rfl, rfl, _⟩ := h
      cases y' with
      | nil => rw [List.nil_append, partsL_nil]
      | cons d' u' =>
        have hy3 : endB d' = true := hy'
        rw [List.nil_append, partsL_cons, if_pos hy3]
  | 0, i, c :: t, y, y', acc, ps, j, r, hm, _, _, _, _, _ => by simp at hm
  | m + 1, i, c :: t, y, y', acc, ps, j, r, hm, hy, hy', hne, h, hj => by
    simp only [List.length_cons] at hm hj
    rw [List.cons_append, partsL_cons] at h ⊢
    split at h
    · simp only [PsR.ok.injEq] at h
      omega
    · rename_i hc
      rw [if_neg hc]
      split at h
      · cases h
      · rename_i p n hp
        have h1 := partL_pos hp
        have h2 := partsF_ge _ h
        rw [part_ended hp (by omega) hy hy' (.inl hne)]
        simp only
        have hle : n ≤ (c :: t).length := by simp only [List.length_cons]; omega
        rw [← List.cons_append, List.drop_append_of_le_length hle] at h
        rw [← List.cons_append, List.drop_append_of_le_length hle]
        exact parts_ended m (i + n) _ y y' _ ps j r (by rw [List.length_drop, List.length_cons]; omega) hy hy' hne h (by rw [List.length_drop, List.length_cons]; omega)

/- places moved -/
def shP (d : Nat) (p : CPart) : CPart := ⟨p.kind, p.pos + d, p.n, p.s⟩
def shW (d : Nat) (w : CWord) : CWord := ⟨w.pos + d, w.braced, w.parts.map (shP d)⟩
def shC (d : Nat) (c : CCmd) : CCmd := ⟨c.pos + d, c.words.map (shW d)⟩
def shPR (d : Nat) : PartR → PartR
  | .err k a => .err k (a + d)
  | .ok p n => .ok (shP d p) n
def shPs (d : Nat) : PsR → PsR
  | .err k a => .err k (a + d)
  | .ok ps i l => .ok (ps.map (shP d)) (i + d) l
def shWR (d : Nat) : WdR → WdR
  | .err k a => .err k (a + d)
  | .ok w i l => .ok (shW d w) (i + d) l
def shSR (d : Nat) : ScR → ScR
  | .err k a => .err k (a + d)
  | .ok l => .ok (l.map (shC d))
theorem dollar_sh (d i : Nat) (t : List UInt8) : dollarL (i + d) t = shPR d (dollarL i t) := by
  unfold dollarL
  split
  · split <;> rfl
  · split
    · rfl
    · split
      · rfl
      · split <;> rfl
theorem part_sh (d i : Nat) (c : UInt8) (t : List UInt8) : partL (i + d) c t = shPR d (partL i c t) := by
  unfold partL
  split
  · split <;> rfl
  · split
    · exact dollar_sh d i t
    · split
      · split <;> rfl
      · rfl
theorem merge_sh (d : Nat) (acc : List CPart) (p : CPart) : mergeP (acc.map (shP d)) (shP d p) = (mergeP acc p).map (shP d) := by
  unfold mergeP
  rw [List.getLast?_map]
  cases acc.getLast? with
  | none => rfl
  | some q =>
    simp only [Option.map_some]
    by_cases h : p.kind = 1 ∧ q.kind = 1
    · rw [if_pos h, if_pos (by exact h)]
      simp [shP]
    · rw [if_neg h, if_neg (by exact h)]
      simp
theorem parts_sh (e : UInt8 → Bool) (d : Nat) : ∀ (m i : Nat) (l : List UInt8) (acc : List CPart), l.length ≤ m → partsL e (i + d) l (acc.map (shP d)) = shPs d (partsL e i l acc)
  | m, i, [], acc, _ => by rw [partsL_nil, partsL_nil]; rfl
  | 0, i, c :: t, acc, hm => by simp at hm
  | m + 1, i, c :: t, acc, hm => by
    simp only [List.length_cons] at hm
    rw [partsL_cons, partsL_cons]
    split
    · rfl
    · rw [part_sh]
      cases hp : partL i c t with
      | err k a => rfl
      | ok p n =>
        simp only [shPR]
        have := partL_pos hp
        rw [merge_sh, show i + d + n = i + n + d by omega, parts_sh e d m (i + n) _ _ (by simp; omega)]
theorem tail_sh (d : Nat) (w : CWord) (i : Nat) (l : List UInt8) : tailW (shW d w) (i + d) l = shWR d (tailW w i l) := by
  unfold tailW
  split <;> rfl
theorem plain_sh (d i : Nat) (l : List UInt8) : plainW (i + d) l = shWR d (plainW i l) := by
  unfold plainW
  have := parts_sh endB d _ i l [] (Nat.le_refl _)
  rw [List.map_nil] at this
  rw [this]
  cases partsL endB i l [] <;> rfl
theorem word_sh (d i : Nat) (l : List UInt8) : wordL (i + d) l = shWR d (wordL i l) := by
  cases l with
  | nil => exact plain_sh d i []
  | cons c t =>
    rw [wordL, wordL]
    split
    · unfold bracedW
      cases braceL 0 t with
      | none => rfl
      | some k =>
        simp only
        rw [← tail_sh d]
        simp only [shW, shP, List.map_cons, List.map_nil]
        rw [show i + d + 1 = i + 1 + d by omega, show i + 1 + d + k + 1 = i + 1 + k + 1 + d by omega]
    · split
      · unfold quotedW
        have := parts_sh quoB d _ (i + 1) t [] (Nat.le_refl _)
        rw [List.map_nil] at this
        rw [show i + d + 1 = i + 1 + d by omega, this]
        cases partsL quoB (i + 1) t [] with
        | err k a => rfl
        | ok ps j r =>
          simp only [shPs]
          split
          · rfl
          · rw [show j + d + 1 = j + 1 + d by omega, ← tail_sh d]
            simp only [shW, List.length_map]
            split
            · rfl
            · rfl
      · exact plain_sh d i _
theorem flush_sh (d : Nat) (ws : List CWord) (out : List CCmd) : flushC (ws.map (shW d)) (out.map (shC d)) = (flushC ws out).map (shC d) := by
  cases ws with
  | nil => rfl
  | cons w ws => simp [flushC, shC, shW]
theorem scan_sh (d : Nat) : ∀ (m i : Nat) (l : List UInt8) (ws : List CWord) (out : List CCmd), l.length ≤ m → scanL (i + d) l (ws.map (shW d)) (out.map (shC d)) = shSR d (scanL i l ws out)
  | m, i, [], ws, out, _ => by rw [scanL_nil, scanL_nil, flush_sh]; rfl
  | 0, i, c :: t, ws, out, hm => by simp at hm
  | m + 1, i, c :: t, ws, out, hm => by
    simp only [List.length_cons] at hm
    rw [scanL_cons, scanL_cons]
    split
    · rw [flush_sh, show i + d + 1 = i + 1 + d by omega]
      have := scan_sh d m (i + 1) t [] (flushC ws out) (by omega)
      rwa [List.map_nil] at this
    · split
      · rw [show i + d + 1 = i + 1 + d by omega]
        exact scan_sh d m (i + 1) t ws out (by omega)
      · rw [List.length_map]
        split
        · rw [show i + d + 1 + (t.length - (toLine t).length) = i + 1 + (t.length - (toLine t).length) + d by omega]
          exact scan_sh d m _ _ ws out (by have := toLine_le t; omega)
        · rename_i h1 h2 _
          rw [word_sh]
          cases hw : wordL i (c :: t) with
          | err k a => rfl
          | ok w j r =>
            simp only [shWR]
            have := wordL_lt hw (endB_false h1 h2)
            simp only [List.length_cons] at this
            rw [← scan_sh d m j r (ws ++ [w]) out (by omega)]
            simp
def onto (pre : List CCmd) : ScR → ScR
  | .err k a => .err k a
  | .ok l => .ok (pre ++ l)
theorem flush_onto (pre : List CCmd) (ws : List CWord) (out : List CCmd) : flushC ws (pre ++ out) = pre ++ flushC ws out := by
  cases ws with
  | nil => rfl
  | cons w ws => simp [flushC]
theorem scan_onto (pre : List CCmd) : ∀ (m i : Nat) (l : List UInt8) (ws : List CWord) (out : List CCmd), l.length ≤ m → scanL i l ws (pre ++ out) = onto pre (scanL i l ws out)
  | m, i, [], ws, out, _ => by rw [scanL_nil, scanL_nil, flush_onto]; rfl
  | 0, i, c :: t, ws, out, hm => by simp at hm
  | m + 1, i, c :: t, ws, out, hm => by
    simp only [List.length_cons] at hm
    rw [scanL_cons, scanL_cons]
    split
    · rw [flush_onto]
      exact scan_onto pre m _ _ _ _ (by omega)
    · split
      · exact scan_onto pre m _ _ _ _ (by omega)
      · split
        · exact scan_onto pre m _ _ _ _ (by have := toLine_le t; omega)
        · rename_i h1 h2 _
          cases hw : wordL i (c :: t) with
          | err k a => rfl
          | ok w j r =>
            have := wordL_lt hw (endB_false h1 h2)
            simp only [List.length_cons] at this
            exact scan_onto pre m _ _ _ _ (by omega)

/- a text made a word -/
theorem quo_len (s : List UInt8) : s.length ≤ (quoE s).length ∧ (quoE s).length ≤ 2 * s.length := by
  induction s with
  | nil => exact ⟨Nat.le_refl _, Nat.le_refl _⟩
  | cons c t ih =>
    rw [quoE]
    split <;> simp only [List.length_cons] <;> omega
theorem merge_text (q : CPart) (p : CPart) (hp : p.kind = 1) (hq : q.kind = 1) : mergeP [q] p = [⟨1, q.pos, q.n, q.s ++ p.s⟩] := by
  unfold mergeP
  simp [hp, hq]
theorem esc_same {c : UInt8} (h : c = 34 ∨ c = 92 ∨ c = 36 ∨ c = 91) : escT c = c := by
  rcases h with rfl | rfl | rfl | rfl <;> rfl
theorem quo_step (i : Nat) (c : UInt8) (t y : List UInt8) (acc : List CPart) : partsL quoB i (quoE (c :: t) ++ 34 :: y) acc = partsL quoB (i + ((quoE (c :: t)).length - (quoE t).length)) (quoE t ++ 34 :: y) (mergeP acc ⟨1, i, 0, [c]⟩) := by
  rw [quoE]
  split
  · rename_i hc
    rw [List.cons_append, List.cons_append, partsL_cons]
    rw [if_neg (by decide)]
    rw [partL.eq_def, if_pos rfl]
    simp only [esc_same hc, List.drop_succ_cons, List.drop_zero, List.length_cons]
    rw [show (quoE t).length + 1 + 1 - (quoE t).length = 2 by omega]
  · rename_i hc
    have h1 : c ≠ 34 := fun h => hc (.inl h)
    have h2 : c ≠ 92 := fun h => hc (.inr (.inl h))
    have h3 : c ≠ 36 := fun h => hc (.inr (.inr (.inl h)))
    have h4 : c ≠ 91 := fun h => hc (.inr (.inr (.inr h)))
    rw [List.cons_append, partsL_cons]
    rw [if_neg (by simp [quoB, h1])]
    rw [partL.eq_def, if_neg h2, if_neg h3, if_neg h4]
    simp only [List.drop_succ_cons, List.drop_zero, List.length_cons]
    rw [show (quoE t).length + 1 - (quoE t).length = 1 by omega]
theorem quo_text : ∀ (s : List UInt8) (i p0 : Nat) (done y : List UInt8), partsL quoB i (quoE s ++ 34 :: y) [⟨1, p0, 0, done⟩] = .ok [⟨1, p0, 0, done ++ s⟩] (i + (quoE s).length) (34 :: y)
  | [], i, p0, done, y => by
    rw [quoE, List.nil_append, partsL_cons, if_pos (by decide), List.append_nil]
    rfl
  | c :: t, i, p0, done, y => by
    rw [quo_step, merge_text _ _ rfl rfl, quo_text t _ p0 _ y]
    have h1 : (quoE t).length ≤ (quoE (c :: t)).length := by rw [quoE]; split <;> simp only [List.length_cons] <;> omega
    simp only [PsR.ok.injEq, List.cons.injEq, CPart.mk.injEq, true_and, and_true, List.append_assoc, List.cons_append, List.nil_append]
    omega
theorem quoted_word (s y : List UInt8) (i : Nat) (hy : ended y = true) : ∃ w, wordL i (34 :: (quoE s ++ 34 :: y)) = .ok w (i + (quoE s).length + 2) y ∧ textW w = (s, true) ∧ w.braced = false := by
  rw [wordL, if_neg (by decide), if_pos rfl, quotedW]
  cases s with
  | nil =>
    rw [quoE, List.nil_append, partsL_cons, if_pos (by decide)]
    simp only [List.length_cons, List.drop_succ_cons, List.drop_zero, List.length_nil]
    rw [if_neg (by omega), tailW, if_pos hy]
    exact ⟨⟨i, false, [⟨1, i, 0, []⟩]⟩, rfl, rfl, rfl⟩
  | cons c t =>
    rw [quo_step]
    have hm : mergeP [] ⟨1, i + 1, 0, [c]⟩ = [⟨1, i + 1, 0, [c]⟩] := rfl
    rw [hm, quo_text]
    simp only [List.length_cons, List.drop_succ_cons, List.drop_zero, List.length_nil]
    rw [if_neg (by omega), tailW, if_pos hy, if_neg (by omega)]
    refine ⟨⟨i, false, [⟨1, i + 1, 0, [c] ++ t⟩]⟩, ?_, rfl, rfl⟩
    have h1 : (quoE t).length ≤ (quoE (c :: t)).length := by rw [quoE]; split <;> simp only [List.length_cons] <;> omega
    simp only [WdR.ok.injEq, and_true, true_and]
    omega
theorem oneL_some {s : List UInt8} {w : CWord} (h : oneL s = some w) : s ≠ [] ∧ ∃ r, wordL 0 (s ++ [32]) = .ok w s.length r := by
  unfold oneL at h
  split at h
  · cases h
  · rename_i w' j r hw
    split at h
    · rename_i hc
      injection h with h
      subst h
      refine ⟨fun h => hc.1 (by rw [h]; rfl), r, ?_⟩
      rw [hw, hc.2]
    · cases h
theorem text_sh (d : Nat) (w : CWord) : textW (shW d w) = textW w := by
  unfold textW shW
  cases w.parts with
  | nil => rfl
  | cons p t =>
    cases t with
    | nil => rfl
    | cons q t => rfl
/-- A bare word's head. -/
theorem bare_head {s : List UInt8} (h : bareT s = true) : ∃ c t, s = c :: t ∧ c ≠ 34 ∧ c ≠ 35 ∧ c ≠ 123 ∧ endB c = false ∧ ∃ ps r, partsL endB 0 (s ++ [32]) [] = .ok ps s.length r ∧ textW ⟨0, false, ps⟩ = (s, true) := by
  unfold bareT at h
  cases ho : oneL s with
  | none => rw [ho] at h; cases h
  | some w =>
    rw [ho] at h
    simp only [Bool.and_eq_true, decide_eq_true_eq, Bool.not_eq_true'] at h
    obtain ⟨⟨⟨ht, hb⟩, h34⟩, h35⟩ := h
    obtain ⟨hne, r, hw⟩ := oneL_some ho
    cases s with
    | nil => exact absurd rfl hne
    | cons c t =>
      have e34 : c ≠ 34 := fun h => h34 (by rw [h]; rfl)
      have e35 : c ≠ 35 := fun h => h35 (by rw [h]; rfl)
      rw [List.cons_append, wordL] at hw
      split at hw
      · unfold bracedW at hw
        split at hw
        · cases hw
        · obtain ⟨rfl, _⟩ := tailW_ok hw
          cases hb
      · rename_i e123
        try rw [if_neg e34] at hw
        rw [plainW] at hw
        split at hw
        · cases hw
        · rename_i ps j r' hps
          simp only [WdR.ok.injEq] at hw
          obtain ⟨rfl, rfl, rfl⟩ := hw
          refine ⟨c, t, rfl, e34, e35, e123, ?_, ps, _, hps, ht⟩
          cases he : endB c with
          | false => rfl
          | true =>
            rw [partsL_cons, if_pos he] at hps
            simp only [PsR.ok.injEq, List.length_cons] at hps
            omega
/-- A text made a word is read as that text, ahead of any end. -/
theorem quote_word (s y : List UInt8) (i : Nat) (hy : ended y = true) : ∃ w, wordL i (quoteT s ++ y) = .ok w (i + (quoteT s).length) y ∧ textW w = (s, true) ∧ w.braced = false := by
  unfold quoteT
  cases hb : bareT s with
  | false =>
    rw [if_neg Bool.noConfusion, List.cons_append, List.append_assoc, List.cons_append, List.nil_append]
    obtain ⟨w, h1, h2, h3⟩ := quoted_word s y i hy
    refine ⟨w, ?_, h2, h3⟩
    rw [h1]
    simp only [WdR.ok.injEq, and_true, true_and, List.length_cons, List.length_append, List.length_nil]
    omega
  | true =>
    rw [if_pos rfl]
    obtain ⟨c, t, rfl, e34, _, e123, _, ps, r, hps, ht⟩ := bare_head hb
    have h1 := parts_ended _ 0 (c :: t) [32] y [] ps _ r (Nat.le_refl _) rfl hy (by simp) hps (by omega)
    have h2 : wordL 0 (c :: t ++ y) = .ok ⟨0, false, ps⟩ (c :: t).length y := by
      rw [List.cons_append, wordL, if_neg e123, if_neg e34, plainW, ← List.cons_append, h1]
    have h3 := word_sh i 0 (c :: t ++ y)
    rw [h2, Nat.zero_add] at h3
    refine ⟨shW i ⟨0, false, ps⟩, h3.trans ?_, ?_, rfl⟩
    · simp only [shWR, WdR.ok.injEq, and_true, true_and]
      omega
    · rw [text_sh]
      exact ht
theorem quote_head (s : List UInt8) : ∃ c t, quoteT s = c :: t ∧ c ≠ 35 ∧ endB c = false := by
  unfold quoteT
  cases hb : bareT s with
  | false => exact ⟨34, _, rfl, by decide, by decide⟩
  | true =>
    obtain ⟨c, t, rfl, _, h35, _, he, _⟩ := bare_head hb
    exact ⟨c, t, rfl, h35, he⟩
theorem endB_iff (c : UInt8) : endB c = false ↔ ¬ (c = 59 ∨ c = 10) ∧ ¬ (c = 32 ∨ c = 9) := by
  constructor
  · intro h
    simp only [endB, Bool.or_eq_false_iff, decide_eq_false_iff_not] at h
    obtain ⟨⟨⟨h1, h2⟩, h3⟩, h4⟩ := h
    exact ⟨fun h => h.elim h4 h3, fun h => h.elim h1 h2⟩
  · rintro ⟨h1, h2⟩
    exact endB_false h1 h2
/-- Scanning on at a text made a word. -/
theorem scan_quote (s y : List UInt8) (i : Nat) (ws : List CWord) (out : List CCmd) (hy : ended y = true) : ∃ w, scanL i (quoteT s ++ y) ws out = scanL (i + (quoteT s).length) y (ws ++ [w]) out ∧ textW w = (s, true) ∧ w.braced = false := by
  obtain ⟨w, h1, h2, h3⟩ := quote_word s y i hy
  obtain ⟨c, t, hq, h35, he⟩ := quote_head s
  obtain ⟨g1, g2⟩ := (endB_iff c).1 he
  refine ⟨w, ?_, h2, h3⟩
  rw [hq] at h1 ⊢
  rw [List.cons_append] at h1 ⊢
  rw [scanL_cons, if_neg g1, if_neg g2, if_neg (fun h => h35 h.1), h1]
/-- Two texts, one alone and both among others. -/
theorem quotes_one (s : List UInt8) : ∃ w, scanL 0 (quoteT s) [] [] = .ok [⟨w.pos, [w]⟩] ∧ textW w = (s, true) ∧ w.braced = false := by
  obtain ⟨w, h1, h2, h3⟩ := scan_quote s [] 0 [] [] rfl
  refine ⟨w, ?_, h2, h3⟩
  rw [List.append_nil] at h1
  rw [h1, scanL_nil]
  rfl
theorem quotes_two (s t : List UInt8) : ∃ w0 w1 w2 w3, scanL 0 (120 :: 32 :: (quoteT s ++ 32 :: (quoteT t ++ [59, 121]))) [] [] = .ok [⟨0, [w0, w1, w2]⟩, ⟨w3.pos, [w3]⟩] ∧ textW w1 = (s, true) ∧ textW w2 = (t, true) := by
  have hx : ∀ y : List UInt8, ended y = true → wordL 0 (120 :: y) = .ok ⟨0, false, [⟨1, 0, 0, [120]⟩]⟩ 1 y := fun y hy => by
    rw [wordL, if_neg (by decide), if_neg (by decide), plainW, partsL_cons, if_neg (by decide)]
    have hp : partL 0 120 y = .ok ⟨1, 0, 0, [120]⟩ 1 := by rw [partL.eq_def, if_neg (by decide), if_neg (by decide), if_neg (by decide)]
    rw [hp]
    have hm : mergeP [] ⟨1, 0, 0, [120]⟩ = [⟨1, 0, 0, [120]⟩] := rfl
    simp only [hm, List.drop_succ_cons, List.drop_zero]
    cases y with
    | nil => rw [partsL_nil]
    | cons c u =>
      have hy2 : endB c = true := hy
      rw [partsL_cons, if_pos hy2]
  rw [scanL_cons, if_neg (by decide), if_neg (by decide), if_neg (by decide), hx _ rfl]
  simp only [List.nil_append]
  rw [scanL_cons, if_neg (by decide), if_pos (by decide)]
  obtain ⟨w1, h1, t1, _⟩ := scan_quote s (32 :: (quoteT t ++ [59, 121])) (1 + 1) [⟨0, false, [⟨1, 0, 0, [120]⟩]⟩] [] rfl
  rw [h1, scanL_cons, if_neg (by decide), if_pos (by decide)]
  obtain ⟨w2, h2, t2, _⟩ := scan_quote t [59, 121] (1 + 1 + (quoteT s).length + 1) ([⟨0, false, [⟨1, 0, 0, [120]⟩]⟩] ++ [w1]) [] rfl
  rw [h2, scanL_cons, if_pos (by decide)]
  have h0 : ∀ d : Nat, wordL d [121] = .ok ⟨d, false, [⟨1, d, 0, [121]⟩]⟩ (d + 1) [] := fun d => by
    rw [wordL, if_neg (by decide), if_neg (by decide), plainW, partsL_cons, if_neg (by decide)]
    have hp : partL d 121 [] = .ok ⟨1, d, 0, [121]⟩ 1 := by rw [partL.eq_def, if_neg (by decide), if_neg (by decide), if_neg (by decide)]
    rw [hp]
    have hm : mergeP [] ⟨1, d, 0, [121]⟩ = [⟨1, d, 0, [121]⟩] := rfl
    simp only [hm, List.drop_succ_cons, List.drop_zero]
    rw [partsL_nil]
  rw [scanL_cons, if_neg (by decide), if_neg (by decide), if_neg (by decide), h0]
  simp only
  rw [scanL_nil]
  exact ⟨_, w1, w2, _, rfl, t1, t2⟩
end Go.Proofs.YtlhpflilpdceiaaDoor
