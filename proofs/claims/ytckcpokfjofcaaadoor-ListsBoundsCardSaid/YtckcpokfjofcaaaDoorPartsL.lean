/- The plain laws of PatternParts: the parts of a closed text, a blank and another text are the parts of the one and of the other; each part is no empty text and its own one part. No program in sight. -/
import Derived.Test.YtckcpokfjofcaaaDoorStarsL
set_option linter.unusedVariables false
set_option linter.unusedSimpArgs false
namespace Go.Proofs.YtckcpokfjofcaaaDoor

theorem sh_blank (n : Nat) (p : Piece) : (p.sh n).blankB = p.blankB := rfl
theorem blank_ne {c : UInt8} (h : blankB c = true) : (c == 92) = false := by
  cases hh : c == 92 with
  | false => rfl
  | true =>
    have : c = 92 := by simpa using hh
    subst this
    exact absurd h (by decide)

theorem splitP_b (s : List UInt8) {p : Piece} (h : p.blankB = true) (t : List Piece) (f : Nat) : splitP s (p :: t) f = (if f < p.frm then [(s.take p.frm).drop f] else []) ++ splitP s t (p.frm + 1) := by
  simp only [splitP]; rw [if_pos h]
theorem splitP_n (s : List UInt8) {p : Piece} (h : p.blankB = false) (t : List Piece) (f : Nat) : splitP s (p :: t) f = splitP s t f := by
  simp only [splitP]; rw [if_neg (by simp [h])]

theorem splitP_shift (s : List UInt8) (m : Nat) : ∀ (L : List Piece) (f : Nat), splitP s (L.map (Piece.sh m)) (f + m) = splitP (s.drop m) L f
  | [], f => by
    simp only [List.map_nil, splitP, List.length_drop, List.drop_drop]
    rw [show m + f = f + m by omega]
    by_cases h : f + m < s.length
    · rw [if_pos h, if_pos (by omega)]
    · rw [if_neg h, if_neg (by omega)]
  | x :: L, f => by
    have ih1 := splitP_shift s m L f
    have ih2 := splitP_shift s m L (x.frm + 1)
    rw [List.map_cons]
    cases hb : x.blankB with
    | false => rw [splitP_n s (p := x.sh m) hb, splitP_n _ hb]; exact ih1
    | true =>
      rw [splitP_b s (p := x.sh m) hb, splitP_b _ hb]
      have hf : (x.sh m).frm = x.frm + m := rfl
      rw [hf, show x.frm + m + 1 = x.frm + 1 + m by omega, ih2]
      congr 1
      by_cases h : f < x.frm
      · rw [if_pos h, if_pos (by omega)]
        congr 1
        rw [List.drop_take, List.drop_take, List.drop_drop, show x.frm + m - (f + m) = x.frm - f by omega, show m + f = f + m by omega]
      · rw [if_neg h, if_neg (by omega)]

theorem splitP_append (a b : List UInt8) (c : UInt8) (hc : blankB c = true) (B : List Piece) : ∀ (A : List Piece) (f : Nat), f ≤ a.length → (∀ x ∈ A, x.frm < a.length) →
    splitP (a ++ c :: b) (A ++ ⟨c, false, a.length⟩ :: B) f = splitP a A f ++ splitP (a ++ c :: b) B (a.length + 1)
  | [], f, hf, _ => by
    have hb : (⟨c, false, a.length⟩ : Piece).blankB = true := by simp [Piece.blankB, hc]
    simp only [List.nil_append, splitP, hb, if_true]
    congr 1
    by_cases h : f < a.length
    · rw [if_pos h, if_pos h]; simp
    · rw [if_neg h, if_neg h]
  | x :: A, f, hf, hA => by
    have hx := hA x (List.mem_cons_self ..)
    have hA' := fun y hy => hA y (List.mem_cons_of_mem _ hy)
    rw [List.cons_append]
    cases hb : x.blankB with
    | false => rw [splitP_n _ hb, splitP_n _ hb]; exact splitP_append a b c hc B A f hf hA'
    | true =>
      rw [splitP_b _ hb, splitP_b _ hb]
      rw [splitP_append a b c hc B A (x.frm + 1) (by omega) hA', List.append_assoc]
      congr 1
      rw [List.take_append_of_le_length (by omega)]

theorem pieces_frm : ∀ (l : List UInt8) (i : Nat), ∀ x ∈ piecesOf l i, x.frm < i + l.length
  | [], i, x, h => by cases h
  | [c], i, x, h => by
    by_cases hc : (c == 92) = true
    · simp [piecesOf, hc] at h; subst h; simp
    · simp [piecesOf, hc] at h; subst h; simp
  | c :: d :: t, i, x, h => by
    by_cases hc : c = 92
    · subst hc
      simp only [piecesOf, beq_self_eq_true, if_true, List.mem_cons] at h
      rcases h with rfl | h
      · simp
      · have := pieces_frm t (i + 2) x h
        simp only [List.length_cons]; omega
    · have hc' : (c == 92) = false := by simpa using hc
      rw [show piecesOf (c :: d :: t) i = ⟨c, false, i⟩ :: piecesOf (d :: t) (i + 1) by simp [piecesOf, hc']] at h
      rcases List.mem_cons.1 h with rfl | h
      · simp
      · have := pieces_frm (d :: t) (i + 1) x h
        simp only [List.length_cons] at this ⊢; omega

theorem split_append {a : List UInt8} (ho : openOf a = false) {c : UInt8} (hc : blankB c = true) (b : List UInt8) : splitL (a ++ c :: b) = splitL a ++ splitL b := by
  have hp : piecesOf (a ++ c :: b) 0 = piecesOf a 0 ++ ⟨c, false, a.length⟩ :: piecesOf b (a.length + 1) := by
    rw [pieces_append (c :: b) a 0 ho, Nat.zero_add, piecesOf_ne (by simpa using blank_ne hc)]
  unfold splitL
  rw [hp, splitP_append a b c hc _ _ 0 (Nat.zero_le _) (fun x hx => by have := pieces_frm a 0 x hx; omega)]
  congr 1
  have h1 := pieces_shift (a.length + 1) b 0
  rw [Nat.zero_add] at h1
  have h2 := splitP_shift (a ++ c :: b) (a.length + 1) (piecesOf b 0) 0
  rw [Nat.zero_add] at h2
  rw [h1, h2]
  congr 1
  simp [List.drop_append]

theorem plain_append {a : List UInt8} (ho : openOf a = false) (b : List UInt8) : plainL (a ++ b) = plainL a ++ plainL b := by
  unfold plainL
  rw [pieces_append b a 0 ho, List.map_append]
  congr 1
  have h1 := pieces_shift (0 + a.length) b 0
  rw [Nat.zero_add, Nat.zero_add] at h1
  rw [Nat.zero_add, h1, List.map_map]
  rfl

/-- no piece of it is a living blank -/
def whole (l : List UInt8) : Prop := ∀ i, ∀ x ∈ piecesOf l i, x.blankB = false

theorem parts_or : ∀ (l : List UInt8), whole l ∨ ∃ a c b, l = a ++ c :: b ∧ openOf a = false ∧ blankB c = true ∧ whole a
  | [] => .inl fun i x h => by cases h
  | [c] => by
    cases hb : blankB c with
    | true => exact .inr ⟨[], c, [], rfl, rfl, hb, fun i x h => by cases h⟩
    | false =>
      refine .inl fun i x h => ?_
      by_cases hc : (c == 92) = true
      · simp [piecesOf, hc] at h; subst h; simp [Piece.blankB]
      · simp [piecesOf, hc] at h; subst h; simp [Piece.blankB, hb]
  | c :: d :: t => by
    by_cases hc : c = 92
    · subst hc
      have hp : ∀ (u : List UInt8) (i : Nat), piecesOf (92 :: d :: u) i = ⟨d, true, i⟩ :: piecesOf u (i + 2) := fun u i => by simp [piecesOf]
      have hd : ∀ (u : List UInt8), whole u → whole (92 :: d :: u) := fun u hu i x h => by
        rw [hp] at h
        rcases List.mem_cons.1 h with rfl | h
        · simp [Piece.blankB]
        · exact hu _ x h
      rcases parts_or t with h | ⟨a, e, b, rfl, ho, he, hw⟩
      · exact .inl (hd t h)
      · exact .inr ⟨92 :: d :: a, e, b, rfl, by simpa [openOf] using ho, he, hd a hw⟩
    · have hc' : (c == 92) = false := by simpa using hc
      cases hb : blankB c with
      | true => exact .inr ⟨[], c, d :: t, rfl, rfl, hb, fun i x h => by cases h⟩
      | false =>
        have hp : ∀ (u : List UInt8) (i : Nat), piecesOf (c :: u) i = ⟨c, false, i⟩ :: piecesOf u (i + 1) := fun u i => piecesOf_ne (by simpa using hc) u i
        have hd : ∀ (u : List UInt8), whole u → whole (c :: u) := fun u hu i x h => by
          rw [hp] at h
          rcases List.mem_cons.1 h with rfl | h
          · simp [Piece.blankB, hb]
          · exact hu _ x h
        rcases parts_or (d :: t) with h | ⟨a, e, b, hl, ho, he, hw⟩
        · exact .inl (hd _ h)
        · refine .inr ⟨c :: a, e, b, by rw [hl]; rfl, ?_, he, hd a hw⟩
          cases a with
          | nil => simp [openOf, hc']
          | cons x a => simpa [openOf, hc'] using ho

theorem split_whole {l : List UInt8} (h : whole l) : splitL l = if 0 < l.length then [l] else [] := splitP_inert l (piecesOf l 0) 0 (h 0)

/-- each part is no empty text and its own one part -/
theorem split_parts : ∀ (n : Nat) (l : List UInt8), l.length ≤ n → ∀ z ∈ splitL l, 0 < z.length ∧ z.length ≤ l.length ∧ splitL z = [z]
  | 0, l, h, z, hz => by
    obtain rfl : l = [] := List.eq_nil_of_length_eq_zero (by omega)
    cases hz
  | n + 1, l, h, z, hz => by
    have whole_of : ∀ a : List UInt8, whole a → ∀ z ∈ splitL a, 0 < z.length ∧ z.length ≤ a.length ∧ splitL z = [z] := fun a hw z hz => by
      rw [split_whole hw] at hz
      by_cases hl : 0 < a.length
      · rw [if_pos hl, List.mem_singleton] at hz
        subst hz
        exact ⟨hl, Nat.le_refl _, by rw [split_whole hw, if_pos hl]⟩
      · rw [if_neg hl] at hz; cases hz
    rcases parts_or l with hw | ⟨a, c, b, rfl, ho, hc, hw⟩
    · exact whole_of l hw z hz
    · rw [split_append ho hc] at hz
      rw [List.length_append, List.length_cons] at h ⊢
      rcases List.mem_append.1 hz with hz | hz
      · obtain ⟨h1, h2, h3⟩ := whole_of a hw z hz
        exact ⟨h1, by omega, h3⟩
      · obtain ⟨h1, h2, h3⟩ := split_parts n b (by omega) z hz
        exact ⟨h1, by omega, h3⟩

theorem splitP_len (s : List UInt8) : ∀ (L : List Piece) (f : Nat), (splitP s L f).length ≤ L.length + 1
  | [], f => by simp only [splitP]; split <;> simp
  | x :: L, f => by
    simp only [splitP, List.length_cons]
    have h1 := splitP_len s L f
    have h2 := splitP_len s L (x.frm + 1)
    split
    · rw [List.length_append]; split <;> simp <;> omega
    · omega
theorem split_len (l : List UInt8) : (splitL l).length ≤ l.length + 1 := by
  have h1 := splitP_len l (piecesOf l 0) 0
  have h2 := piecesOf_length_le l 0
  unfold splitL
  omega
end Go.Proofs.YtckcpokfjofcaaaDoor
