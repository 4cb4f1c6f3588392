/- The plain laws of chapter 2's matching: what a pattern matches, said of its parts; what an escaped text is. No program in sight. -/
import Derived.Test.YthmeonimianoeaaDoorPatM
set_option linter.unusedVariables false
set_option linter.unusedSimpArgs false
namespace Go.Proofs.YthmeonimianoeaaDoor

/-- the parts match just this text -/
def Mt : List Tok → List UInt8 → Prop
  | [], u => u = []
  | .star :: ts, u => ∃ k, k ≤ u.length ∧ Mt ts (u.drop k)
  | .any :: ts, u => match u with | [] => False | _ :: v => Mt ts v
  | .set l :: ts, u => match u with | [] => False | c :: v => inL l c = true ∧ Mt ts v
  | .one d :: ts, u => match u with | [] => False | c :: v => d = c ∧ Mt ts v

theorem Mt_cons {t : Tok} (h : ∀ x, t = x → x ≠ .star) (ts : List Tok) (u : List UInt8) : Mt (t :: ts) u ↔ ∃ c v, u = c :: v ∧ t.ok c = true ∧ Mt ts v := by
  have key : ∀ (P Q : UInt8 → List UInt8 → Prop), (∀ c v, P c v ↔ Q c v) → ((match u with | [] => False | c :: v => P c v) ↔ ∃ c v, u = c :: v ∧ Q c v) := by
    intro P Q hPQ
    cases u with
    | nil => simp
    | cons c v =>
      constructor
      · intro h; exact ⟨c, v, rfl, (hPQ c v).1 h⟩
      · rintro ⟨c', v', e, h⟩
        injection e with e1 e2
        subst e1 e2
        exact (hPQ _ _).2 h
  cases t with
  | star => exact absurd rfl (h _ rfl)
  | any => exact key (fun _ v => Mt ts v) _ (fun c v => by simp [Tok.ok])
  | set l => exact key (fun c v => inL l c = true ∧ Mt ts v) _ (fun c v => by simp [Tok.ok])
  | one d => exact key (fun c v => d = c ∧ Mt ts v) _ (fun c v => by simp [Tok.ok])

theorem getD_map_range (n : Nat) (f : Nat → Bool) (k : Nat) : ((List.range n).map f).getD k false = (decide (k < n) && f k) := by
  by_cases h : k < n
  · simp [h, List.getD]
  · simp [h, List.getD]

theorem any_take (l : List Bool) (k : Nat) : (l.take k).any id = true ↔ ∃ j, j < k ∧ l.getD j false = true := by
  simp only [List.any_eq_true, id]
  constructor
  · rintro ⟨b, hb, rfl⟩
    obtain ⟨j, hj, h⟩ := List.mem_iff_getElem.1 hb
    rw [List.length_take] at hj
    refine ⟨j, by omega, ?_⟩
    rw [List.getElem_take] at h
    rw [List.getD_eq_getElem?_getD, List.getElem?_eq_getElem (by omega), h]; rfl
  · rintro ⟨j, hj, h⟩
    have hl : j < l.length := by
      rcases Nat.lt_or_ge j l.length with h' | h'
      · exact h'
      · rw [List.getD_eq_getElem?_getD, List.getElem?_eq_none h'] at h; cases h
    rw [List.getD_eq_getElem?_getD, List.getElem?_eq_getElem hl] at h
    exact ⟨true, List.mem_iff_getElem.2 ⟨j, by rw [List.length_take]; omega, by rw [List.getElem_take]; exact h⟩, rfl⟩

theorem stepT_len (s : List UInt8) (at_ : List Bool) (t : Tok) : (stepT s at_ t).length = at_.length := by cases t <;> simp [stepT]
theorem stepT_star (s : List UInt8) (at_ : List Bool) (k : Nat) : (stepT s at_ .star).getD k false = true ↔ k < at_.length ∧ ∃ j, j ≤ k ∧ at_.getD j false = true := by
  simp only [stepT, getD_map_range, Bool.and_eq_true, decide_eq_true_eq, any_take]
  constructor
  · rintro ⟨h, j, hj, h'⟩; exact ⟨h, j, by omega, h'⟩
  · rintro ⟨h, j, hj, h'⟩; exact ⟨h, j, by omega, h'⟩
theorem stepT_one (s : List UInt8) (at_ : List Bool) (t : Tok) (ht : t ≠ .star) (k : Nat) : (stepT s at_ t).getD k false = true ↔ k < at_.length ∧ ∃ j, k = j + 1 ∧ at_.getD j false = true ∧ t.ok (s.getD j 0) = true := by
  have h : stepT s at_ t = (List.range at_.length).map fun k => match k with | 0 => false | j + 1 => at_.getD j false && t.ok (s.getD j 0) := by cases t <;> first | rfl | exact absurd rfl ht
  rw [h, getD_map_range]
  cases k with
  | zero => simp
  | succ j => simp

theorem runT_spec (s : List UInt8) : ∀ (ts : List Tok) (at_ : List Bool), at_.length = s.length + 1 →
    ((runT s ts at_).getD s.length false = true ↔ ∃ j, j ≤ s.length ∧ at_.getD j false = true ∧ Mt ts (s.drop j)) := by
  intro ts
  induction ts with
  | nil =>
    intro at_ hl
    simp only [runT, List.foldl_nil, Mt]
    constructor
    · intro h; exact ⟨s.length, Nat.le_refl _, h, by simp⟩
    · rintro ⟨j, hj, h, hd⟩
      have := congrArg List.length hd
      rw [List.length_drop] at this
      have : j = s.length := by simp at this; omega
      rw [← this]; exact h
  | cons t ts ih =>
    intro at_ hl
    have hs : runT s (t :: ts) at_ = runT s ts (stepT s at_ t) := rfl
    rw [hs, ih _ (by rw [stepT_len]; exact hl)]
    by_cases ht : t = .star
    · subst ht
      simp only [stepT_star, Mt]
      constructor
      · rintro ⟨k, hk, ⟨_, j, hj, h⟩, hm⟩
        refine ⟨j, by omega, h, k - j, by rw [List.length_drop]; omega, ?_⟩
        rw [List.drop_drop, show j + (k - j) = k by omega]; exact hm
      · rintro ⟨j, hj, h, k, hk, hm⟩
        rw [List.length_drop] at hk
        rw [List.drop_drop] at hm
        exact ⟨j + k, by omega, ⟨by omega, j, by omega, h⟩, hm⟩
    · simp only [stepT_one _ _ _ ht]
      rw [show (∃ j, j ≤ s.length ∧ at_.getD j false = true ∧ Mt (t :: ts) (s.drop j)) ↔ ∃ j, j ≤ s.length ∧ at_.getD j false = true ∧ ∃ c v, s.drop j = c :: v ∧ t.ok c = true ∧ Mt ts v from by
        simp only [Mt_cons (t := t) (fun x hx => by rw [← hx]; exact ht)]]
      constructor
      · rintro ⟨k, hk, ⟨_, j, rfl, h, hok⟩, hm⟩
        have hj : j < s.length := by omega
        rw [List.getD_eq_getElem?_getD, List.getElem?_eq_getElem hj] at hok
        exact ⟨j, by omega, h, s[j], s.drop (j + 1), List.drop_eq_getElem_cons hj, hok, hm⟩
      · rintro ⟨j, hj, h, c, v, hd, hok, hm⟩
        have hjl : j < s.length := by
          rcases Nat.lt_or_ge j s.length with h' | h'
          · exact h'
          · rw [List.drop_of_length_le h'] at hd; cases hd
        rw [List.drop_eq_getElem_cons hjl] at hd
        injection hd with h1 h2
        refine ⟨j + 1, by omega, ⟨by omega, j, rfl, h, ?_⟩, by rw [h2]; exact hm⟩
        rw [List.getD_eq_getElem?_getD, List.getElem?_eq_getElem hjl]
        simpa [h1] using hok

theorem matchL_iff (p s : List UInt8) : matchL p s = true ↔ Mt (toks (piecesOf p 0)) s := by
  unfold matchL
  rw [runT_spec s _ _ (by simp)]
  constructor
  · rintro ⟨j, hj, h, hm⟩
    cases j with
    | zero => simpa using hm
    | succ j =>
      simp [List.getElem?_replicate] at h
      split at h <;> cases h
  · intro h; exact ⟨0, Nat.zero_le _, rfl, by simpa using h⟩

/-- pieces that are no pattern byte and no blank -/
def Piece.inert (p : Piece) : Prop := p.dead = true ∨ escB p.c = false

theorem isB_inert {p : Piece} (h : p.inert) {d : UInt8} (hd : escB d = true) : p.isB d.toNat = false := by
  rcases h with h | h
  · simp [Piece.isB, h]
  · have : p.c ≠ d := fun e => by rw [e, hd] at h; cases h
    have hn : ((p.c.toNat : Int) == (d.toNat : Int)) = false := by
      rw [beq_eq_false_iff_ne]; intro e; exact this (UInt8.toNat_inj.1 (by omega))
    simp [Piece.isB, hn]
theorem blank_inert {p : Piece} (h : p.inert) : p.blankB = false := by
  rcases h with h | h
  · simp [Piece.blankB, h]
  · have : blankB p.c = false := by simp only [escB, Bool.or_eq_false_iff] at h; exact h.2
    simp [Piece.blankB, this]

theorem escapeL_cons_esc {c : UInt8} (h : escB c = true) (l : List UInt8) : escapeL (c :: l) = 92 :: c :: escapeL l := by simp [escapeL, h]
theorem escapeL_cons_plain {c : UInt8} (h : escB c = false) (l : List UInt8) : escapeL (c :: l) = c :: escapeL l := by simp [escapeL, h]
theorem esc_ne {c : UInt8} (h : escB c = false) : c ≠ 92 := fun e => by subst e; revert h; decide

theorem escaped (S : List UInt8) : ∀ i, (∀ p ∈ piecesOf (escapeL S) i, p.inert) ∧ (piecesOf (escapeL S) i).map (·.c) = S ∧ openOf (escapeL S) = false := by
  induction S with
  | nil => intro i; simp [escapeL, piecesOf, openOf]
  | cons c S ih =>
    intro i
    cases h : escB c with
    | true =>
      obtain ⟨h1, h2, h3⟩ := ih (i + 2)
      rw [escapeL_cons_esc h, piecesOf_esc, openOf_esc]
      refine ⟨fun p hp => ?_, by rw [List.map_cons, h2], h3⟩
      rcases List.mem_cons.1 hp with rfl | hp
      · exact .inl rfl
      · exact h1 p hp
    | false =>
      obtain ⟨h1, h2, h3⟩ := ih (i + 1)
      rw [escapeL_cons_plain h, piecesOf_ne (esc_ne h), openOf_ne (esc_ne h)]
      refine ⟨fun p hp => ?_, by rw [List.map_cons, h2], h3⟩
      rcases List.mem_cons.1 hp with rfl | hp
      · exact .inr h
      · exact h1 p hp

theorem toks_inert : ∀ (l : List Piece), (∀ p ∈ l, p.inert) → toks l = l.map fun p => .one p.c
  | [], _ => rfl
  | p :: l, h => by
    have hp := h p (by simp)
    rw [toks_one (isB_inert hp (d := 42) (by decide)) (isB_inert hp (d := 63) (by decide)) (fun e => by rw [show p.isB 91 = false from isB_inert hp (d := 91) (by decide)] at e; cases e), toks_inert l (fun q hq => h q (by simp [hq]))]
    rfl
theorem liveP_inert : ∀ (l : List Piece), (∀ p ∈ l, p.inert) → liveP l = false
  | [], _ => rfl
  | p :: l, h => by
    have hp := h p (by simp)
    have h1 : p.isB 42 = false := isB_inert hp (d := 42) (by decide)
    have h2 : p.isB 63 = false := isB_inert hp (d := 63) (by decide)
    have h3 : p.isB 91 = false := isB_inert hp (d := 91) (by decide)
    simp [liveP, h1, h2, h3, liveP_inert l (fun q hq => h q (by simp [hq]))]
theorem splitP_inert (s : List UInt8) : ∀ (l : List Piece) (frm : Nat), (∀ p ∈ l, p.blankB = false) → splitP s l frm = if frm < s.length then [s.drop frm] else []
  | [], _, _ => rfl
  | p :: l, frm, h => by
    rw [splitP, h p (by simp)]
    simp only [Bool.false_eq_true, if_false]
    exact splitP_inert s l frm (fun q hq => h q (by simp [hq]))
theorem Mt_ones : ∀ (cs u : List UInt8), Mt (cs.map Tok.one) u ↔ cs = u
  | [], u => by simp [Mt, eq_comm]
  | c :: cs, [] => by simp [Mt]
  | c :: cs, d :: u => by simp [Mt, Mt_ones cs u]

theorem plain_escape (S : List UInt8) : plainL (escapeL S) = S := (escaped S 0).2.1
theorem open_escape (S : List UInt8) : openOf (escapeL S) = false := (escaped S 0).2.2
theorem live_escape (S : List UInt8) : liveL (escapeL S) = false := liveP_inert _ (escaped S 0).1
theorem toks_escape (S : List UInt8) (i : Nat) : toks (piecesOf (escapeL S) i) = S.map Tok.one := by
  rw [toks_inert _ (escaped S i).1]
  conv => rhs; rw [← (escaped S i).2.1]
  rw [List.map_map]; rfl
theorem match_escape (S T : List UInt8) : matchL (escapeL S) T = decide (S = T) := by
  rw [Bool.eq_iff_iff, matchL_iff, toks_escape, Mt_ones, decide_eq_true_eq]
theorem split_escape (S : List UInt8) : splitL (escapeL S) = if 0 < (escapeL S).length then [escapeL S] else [] := by
  unfold splitL
  rw [splitP_inert _ _ _ (fun p hp => blank_inert ((escaped S 0).1 p hp)), List.drop_zero]
theorem escapeL_pos (S : List UInt8) (h : S ≠ []) : 0 < (escapeL S).length := by
  cases S with
  | nil => exact absurd rfl h
  | cons c S => cases hc : escB c <;> simp [escapeL, hc]
end Go.Proofs.YthmeonimianoeaaDoor
