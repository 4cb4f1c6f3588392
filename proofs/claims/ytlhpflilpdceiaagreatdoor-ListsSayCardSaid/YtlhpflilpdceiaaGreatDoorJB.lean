/- The plain laws of chapter 2's matching: what a pattern matches, said of its parts; what an escaped text is. No program in sight. -/
import Derived.Test.YtlhpflilpdceiaaGreatDoorJA
set_option linter.unusedVariables false
set_option linter.unusedSimpArgs false
namespace Go.Proofs.YtlhpflilpdceiaaGreatDoor

/-- the parts match just this text -/
def Mt : List Tok → List UInt8 → Prop
  | [], u => u = []
  | .star :: ts, u => ∃ k, k ≤ u.length ∧ Mt ts (u.drop k)
  | .any :: ts, u => match u with | [] => False | _ :: v => Mt ts v
  | .set l :: ts, u => match u with | [] => False | c :: v => inL l c = true ∧ Mt ts v
  | .one d :: ts, u => match u with | [] => False | c :: v => d = c ∧ Mt ts v

theorem Mt_cons {t : Tok} (h : ∀ x, t = x → x ≠ .star) (ts : List Tok) (u : List UInt8) : Mt (t :: ts) u ↔ ∃ c v, u = c :: v ∧ t.ok c = true ∧ Mt ts v := by
  have key : ∀ (P Q : UInt8 → List UInt8 → Prop), (∀ c v, P c v ↔ Q c v) → ((match u with | [] => False | c :: v => P c v) ↔ ∃ c v, u = c :: v ∧ Q c v) := by
    intro P Q hPQ
    cases u with
    | nil => simp
    | cons c v =>
      constructor
      · intro h; exact ⟨c, v, rfl, (hPQ c v).1 h⟩
      · rintro ⟨c', v', e, h⟩
        injection e with e1 e2
        subst e1 e2
        exact (hPQ _ _).2 h
  cases t with
  | star => exact absurd rfl (h _ rfl)
  | any => exact key (fun _ v => Mt ts v) _ (fun c v => by simp [Tok.ok])
  | set l => exact key (fun c v => inL l c = true ∧ Mt ts v) _ (fun c v => by simp [Tok.ok])
  | one d => exact key (fun c v => d = c ∧ Mt ts v) _ (fun c v => by simp [Tok.ok])

theorem getD_map_range (n : Nat) (f : Nat → Bool) (k : Nat) : ((List.range n).map f).getD k false = (decide (k < n) && f k) := by
  by_cases h : k < n
  · simp [h, List.getD]
  · simp [h, List.getD]

theorem any_take (l : List Bool) (k : Nat) : (l.take k).any id = true ↔ ∃ j, j < k ∧ l.getD j false = true := by
  simp only [List.any_eq_true, id]
  constructor
  · rintro ⟨b, hb, rfl⟩
    obtain ⟨j, hj, h⟩ := List.mem_iff_getElem.1 hb
    rw [List.length_take] at hj
    refine ⟨j, by omega, ?_⟩
    rw [List.getElem_take] at h
    rw [List.getD_eq_getElem?_getD, List.getElem?_eq_getElem (by omega), h]; rfl
  · rintro ⟨j, hj, h⟩
    have hl : j < l.length := by
      rcases Nat.lt_or_ge j l.length with h' | h'
      · exact h'
      · rw [List.getD_eq_getElem?_getD, List.getElem?_eq_none h'] at h; cases h
    rw [List.getD_eq_getElem?_getD, List.getElem?_eq_getElem hl] at h
    exact ⟨true, List.mem_iff_getElem.2 ⟨j, by rw [List.length_take]; omega, by rw [List.getElem_take]; exact h⟩, rfl⟩

theorem stepT_len (s : List UInt8) (at_ : List Bool) (t : Tok) : (stepT s at_ t).length = at_.length := by cases t <;> simp [stepT]
theorem stepT_star (s : List UInt8) (at_ : List Bool) (k : Nat) : (stepT s at_ .star).getD k false = true ↔ k < at_.length ∧ ∃ j, j ≤ k ∧ at_.getD j false = true := by
  simp only [stepT, getD_map_range, Bool.and_eq_true, decide_eq_true_eq, any_take]
  constructor
  · rintro ⟨h, j, hj, h'⟩; exact ⟨h, j, by omega, h'⟩
  · rintro ⟨h, j, hj, h'⟩; exact ⟨h, j, by omega, h'⟩
theorem stepT_one (s : List UInt8) (at_ : List Bool) (t : Tok) (ht : t ≠ .star) (k : Nat) : (stepT s at_ t).getD k false = true ↔ k < at_.length ∧ ∃ j, k = j + 1 ∧ at_.getD j false = true ∧ t.ok (s.getD j 0) = true := by
  have h : stepT s at_ t = (List.range at_.length).map fun k => match k with | 0 => false | j + 1 => at_.getD j false && t.ok (s.getD j 0) := by cases t <;> first | rfl | exact absurd rfl ht
  rw [h, getD_map_range]
  cases k with
  | zero => simp
  | succ j => simp

theorem runT_spec (s : List UInt8) : ∀ (ts : List Tok) (at_ : List Bool), at_.length = s.length + 1 →
    ((runT s ts at_).getD s.length false = true ↔ ∃ j, j ≤ s.length ∧ at_.getD j false = true ∧ Mt ts (s.drop j)) := by
  intro ts
  induction ts with
  | nil =>
    intro at_ hl
    simp only [runT, List.foldl_nil, Mt]
    constructor
    · intro h; exact ⟨s.length, Nat.le_refl _, h, by simp⟩
    · rintro ⟨j, hj, h, hd⟩
      have := congrArg List.length hd
      rw [List.length_drop] at this
      have : j = s.length := by simp at this; omega
      rw [← this]; exact h
  | cons t ts ih =>
    intro at_ hl
    have hs : runT s (t :: ts) at_ = runT s ts (stepT s at_ t) := rfl
    rw [hs, ih _ (by rw [stepT_len]; exact hl)]
    by_cases ht : t = .star
    · subst ht
      simp only [stepT_star, Mt]
      constructor
      · rintro ⟨k, hk, ⟨_, j, hj, h⟩, hm⟩
        refine ⟨j, by omega, h, k - j, by rw [List.length_drop]; omega, ?_⟩
        rw [List.drop_drop, show j + (k - j) = k by omega]; exact hm
      · rintro ⟨j, hj, h, k, hk, hm⟩
        rw [List.length_drop] at hk
        rw [List.drop_drop] at hm
        exact ⟨j + k, by omega, ⟨by omega, j, by omega, h⟩, hm⟩
    · simp only [stepT_one _ _ _ ht]
      rw [show (∃ j, j ≤ s.length ∧ at_.getD j false = true ∧ Mt (t :: ts) (s.drop j)) ↔ ∃ j, j ≤ s.length ∧ at_.getD j false = true ∧ ∃ c v, s.drop j = c :: v ∧ t.ok c = true ∧ Mt ts v from by
        simp only [Mt_cons (t := t) (fun x hx => by rw [← hx]; exact ht)]]
      constructor
      · rintro ⟨k, hk, ⟨_, j, rfl, h, hok⟩, hm⟩
        have hj : j < s.length := by omega
        rw [List.getD_eq_getElem?_getD, List.getElem?_eq_getElem hj] at hok
        exact ⟨j, by omega, h, s[j], s.drop (j + 1), List.drop_eq_getElem_cons hj, hok, hm⟩
      · rintro ⟨j, hj, h, c, v, hd, hok, hm⟩
        have hjl : j < s.length := by
          rcases Nat.lt_or_ge j s.length with h' | h'
          · exact h'
          · rw [List.drop_of_length_le h'] at hd; cases hd
        rw [List.drop_eq_getElem_cons hjl] at hd
        injection hd with h1 h2
        refine ⟨j + 1, by omega, ⟨by omega, j, rfl, h, ?_⟩, by rw [h2]; exact hm⟩
        rw [List.getD_eq_getElem?_getD, List.getElem?_eq_getElem hjl]
        simpa [h1] using hok

theorem matchL_iff (p s : List UInt8) : matchL p s = true ↔ Mt (toks (piecesOf p 0)) s := by
  unfold matchL
  rw [runT_spec s _ _ (by simp)]
  constructor
  · rintro ⟨j, hj, h, hm⟩
    cases j with
    | zero => simpa using hm
    | succ j =>
      simp [List.getElem?_replicate] at h
      split at h <;> cases h
  · intro h; exact ⟨0, Nat.zero_le _, rfl, by simpa using h⟩

/-- pieces that are no pattern byte and no blank -/
def Piece.inert (p : Piece) : Prop := p.dead = true ∨ escB p.c = false

theorem isB_inert {p : Piece} (h : p.inert) {d : UInt8} (hd : escB d = true) : p.isB d.toNat = false := by
  rcases h with h | h
  · simp [Piece.isB, h]
  · have : p.c ≠ d := fun e => by rw [e, hd] at h; cases h
    have hn : ((p.c.toNat : Int) == (d.toNat : Int)) = false := by
      rw [beq_eq_false_iff_ne]; intro e; exact this (UInt8.toNat_inj.1 (by omega))
    simp [Piece.isB, hn]
theorem blank_inert {p : Piece} (h : p.inert) : p.blankB = false := by
  rcases h with h | h
  · simp [Piece.blankB, h]
  · have : blankB p.c = false := by simp only [escB, Bool.or_eq_false_iff] at h; exact h.2
    simp [Piece.blankB, this]

theorem escapeL_cons_esc {c : UInt8} (h : escB c = true) (l : List UInt8) : escapeL (c :: l) = 92 :: c :: escapeL l := by simp [escapeL, h]
theorem escapeL_cons_plain {c : UInt8} (h : escB c = false) (l : List UInt8) : escapeL (c :: l) = c :: escapeL l := by simp [escapeL, h]
theorem esc_ne {c : UInt8} (h : escB c = false) : c ≠ 92 := fun e => by subst e; revert h; decide

theorem escaped (S : List UInt8) : ∀ i, (∀ p ∈ piecesOf (escapeL S) i, p.inert) ∧ (piecesOf (escapeL S) i).map (·.c) = S ∧ openOf (escapeL S) = false := by
  induction S with
  | nil => intro i; simp [escapeL, piecesOf, openOf]
  | cons c S ih =>
    intro i
    cases h : escB c with
    | true =>
      obtain ⟨h1, h2, h3⟩ := ih (i + 2)
      rw [escapeL_cons_esc h, piecesOf_esc, openOf_esc]
      refine ⟨fun p hp => ?_, by rw [List.map_cons, h2], h3⟩
      rcases List.mem_cons.1 hp with rfl | hp
      · exact .inl rfl
      · exact h1 p hp
    | false =>
      obtain ⟨h1, h2, h3⟩ := ih (i + 1)
      rw [escapeL_cons_plain h, piecesOf_ne (esc_ne h), openOf_ne (esc_ne h)]
      refine ⟨fun p hp => ?_, by rw [List.map_cons, h2], h3⟩
      rcases List.mem_cons.1 hp with rfl | hp
      · exact .inr h
      · exact h1 p hp

theorem toks_inert : ∀ (l : List Piece), (∀ p ∈ l, p.inert) → toks l = l.map fun p => .one p.c
  | [], _ => rfl
  | p :: l, h => by
    have hp := h p (by simp)
    rw [toks_one (isB_inert hp (d := 42) (by decide)) (isB_inert hp (d := 63) (by decide)) (fun e => by rw [show p.isB 91 = false from isB_inert hp (d := 91) (by decide)] at e; cases e), toks_inert l (fun q hq => h q (by simp [hq]))]
    rfl
theorem liveP_inert : ∀ (l : List Piece), (∀ p ∈ l, p.inert) → liveP l = false
  | [], _ => rfl
  | p :: l, h => by
    have hp := h p (by simp)
    have h1 : p.isB 42 = false := isB_inert hp (d := 42) (by decide)
    have h2 : p.isB 63 = false := isB_inert hp (d := 63) (by decide)
    have h3 : p.isB 91 = false := isB_inert hp (d := 91) (by decide)
    simp [liveP, h1, h2, h3, liveP_inert l (fun q hq => h q (by simp [hq]))]
theorem splitP_inert (s : List UInt8) : ∀ (l : List Piece) (frm : Nat), (∀ p ∈ l, p.blankB = false) → splitP s l frm = if frm < s.length then [s.drop frm] else []
  | [], _, _ => rfl
  | p :: l, frm, h => by
    rw [splitP, h p (by simp)]
    simp only [Bool.false_eq_true, if_false]
    exact splitP_inert s l frm (fun q hq => h q (by simp [hq]))
theorem Mt_ones : ∀ (cs u : List UInt8), Mt (cs.map Tok.one) u ↔ cs = u
  | [], u => by simp [Mt, eq_comm]
  | c :: cs, [] => by simp [Mt]
  | c :: cs, d :: u => by simp [Mt, Mt_ones cs u]

theorem plain_escape (S : List UInt8) : plainL (escapeL S) = S := (escaped S 0).2.1
theorem open_escape (S : List UInt8) : openOf (escapeL S) = false := (escaped S 0).2.2
theorem live_escape (S : List UInt8) : liveL (escapeL S) = false := liveP_inert _ (escaped S 0).1
theorem toks_escape (S : List UInt8) (i : Nat) : toks (piecesOf (escapeL S) i) = S.map Tok.one := by
  rw [toks_inert _ (escaped S i).1]
  conv => rhs; rw [← (escaped S i).2.1]
  rw [List.map_map]; rfl
theorem match_escape (S T : List UInt8) : matchL (escapeL S) T = decide (S = T) := by
  rw [Bool.eq_iff_iff, matchL_iff, toks_escape, Mt_ones, decide_eq_true_eq]
theorem split_escape (S : List UInt8) : splitL (escapeL S) = if 0 < (escapeL S).length then [escapeL S] else [] := by
  unfold splitL
  rw [splitP_inert _ _ _ (fun p hp => blank_inert ((escaped S 0).1 p hp)), List.drop_zero]
theorem escapeL_pos (S : List UInt8) (h : S ≠ []) : 0 < (escapeL S).length := by
  cases S with
  | nil => exact absurd rfl h
  | cons c S => cases hc : escB c <;> simp [escapeL, hc]
end Go.Proofs.YtlhpflilpdceiaaGreatDoor

/- The plain laws of PatternStars: a closed pattern without a bracket, and one behind it, match a text just where it parts in two. No program in sight. -/
set_option linter.unusedVariables false
set_option linter.unusedSimpArgs false
namespace Go.Proofs.YtlhpflilpdceiaaGreatDoor

def Piece.sh (n : Nat) (p : Piece) : Piece := ⟨p.c, p.dead, p.frm + n⟩
theorem sh_isB (n : Nat) (p : Piece) (d : Int) : (p.sh n).isB d = p.isB d := rfl
theorem sh_c (n : Nat) (p : Piece) : (p.sh n).c = p.c := rfl

theorem pieces_shift (n : Nat) : ∀ (l : List UInt8) (i : Nat), piecesOf l (i + n) = (piecesOf l i).map (Piece.sh n)
  | [], i => rfl
  | [c], i => by
    simp only [piecesOf]
    split <;> simp [Piece.sh, piecesOf]
  | c :: d :: t, i => by
    by_cases hc : c = 92
    · subst hc
      have h := pieces_shift n t (i + 2)
      simp only [piecesOf, beq_self_eq_true, if_true, List.map_cons]
      rw [show i + n + 2 = i + 2 + n by omega, h]
      rfl
    · have h := pieces_shift n (d :: t) (i + 1)
      have hc' : (c == 92) = false := by simpa using hc
      rw [show piecesOf (c :: d :: t) (i + n) = ⟨c, false, i + n⟩ :: piecesOf (d :: t) (i + n + 1) by simp [piecesOf, hc'], show piecesOf (c :: d :: t) i = ⟨c, false, i⟩ :: piecesOf (d :: t) (i + 1) by simp [piecesOf, hc'], show i + n + 1 = i + 1 + n by omega, h]
      rfl

theorem pieces_append (q : List UInt8) : ∀ (p : List UInt8) (i : Nat), openOf p = false → piecesOf (p ++ q) i = piecesOf p i ++ piecesOf q (i + p.length)
  | [], i, _ => rfl
  | [c], i, h => by
    have hc : (c == 92) = false := by
      cases hh : c == 92 with
      | false => rfl
      | true => simp [openOf, hh] at h
    show piecesOf (c :: q) i = piecesOf [c] i ++ _
    cases q with
    | nil => simp [piecesOf]
    | cons d t => simp [piecesOf, hc]
  | c :: d :: t, i, h => by
    by_cases hc : c = 92
    · subst hc
      have ho : openOf t = false := by simpa [openOf] using h
      have h2 := pieces_append q t (i + 2) ho
      show piecesOf (92 :: d :: (t ++ q)) i = _
      simp only [piecesOf, beq_self_eq_true, if_true, List.cons_append, List.length_cons]
      rw [h2, show i + 2 + t.length = i + (t.length + 1 + 1) by omega]
    · have hc' : (c == 92) = false := by simpa using hc
      have ho : openOf (d :: t) = false := by
        have : openOf (c :: d :: t) = openOf (d :: t) := by simp [openOf, hc']
        rw [← this]; exact h
      have h2 := pieces_append q (d :: t) (i + 1) ho
      rw [show piecesOf (c :: d :: t) i = ⟨c, false, i⟩ :: piecesOf (d :: t) (i + 1) by simp [piecesOf, hc'], show (c :: d :: t) ++ q = c :: ((d :: t) ++ q) from rfl,
        show piecesOf (c :: ((d :: t) ++ q)) i = ⟨c, false, i⟩ :: piecesOf ((d :: t) ++ q) (i + 1) by simp [piecesOf, hc'], h2]
      simp only [List.cons_append, List.length_cons]
      rw [show i + 1 + (t.length + 1) = i + (t.length + 1 + 1) by omega]

theorem pieces_mem (x : Piece) : ∀ (l : List UInt8) (i : Nat), x ∈ piecesOf l i → x.c ∈ l
  | [], i, h => by cases h
  | [c], i, h => by
    by_cases hc : c = 92
    · subst hc
      simp [piecesOf] at h
      subst h; simp
    · have hc' : (c == 92) = false := by simpa using hc
      simp [piecesOf, hc'] at h
      subst h; simp
  | c :: d :: t, i, h => by
    by_cases hc : c = 92
    · subst hc
      simp only [piecesOf, beq_self_eq_true, if_true, List.mem_cons] at h
      rcases h with rfl | h
      · simp
      · have := pieces_mem x t (i + 2) h; simp [this]
    · have hc' : (c == 92) = false := by simpa using hc
      rw [show piecesOf (c :: d :: t) i = ⟨c, false, i⟩ :: piecesOf (d :: t) (i + 1) by simp [piecesOf, hc']] at h
      rcases List.mem_cons.1 h with rfl | h
      · simp
      · exact List.mem_cons_of_mem _ (pieces_mem x (d :: t) (i + 1) h)

theorem among_sh (n : Nat) (c : UInt8) : ∀ (f : Nat) (l : List Piece), amongF f (l.map (Piece.sh n)) c = amongF f l c
  | 0, _ => rfl
  | f + 1, [] => rfl
  | f + 1, [p] => by
    simp only [List.map_cons, List.map_nil, amongF, sh_c]
    rfl
  | f + 1, [p, q] => by
    have h := among_sh n c f [q]
    simp only [List.map_cons, List.map_nil] at h
    simp only [List.map_cons, List.map_nil, amongF, sh_c, h]
  | f + 1, p :: q :: r :: t => by
    have h := among_sh n c f (q :: r :: t)
    have h2 := among_sh n c f t
    simp only [List.map_cons] at h
    simp only [List.map_cons, amongF, sh_c, sh_isB, h, h2]
theorem in_sh (n : Nat) (c : UInt8) (l : List Piece) : inL (l.map (Piece.sh n)) c = inL l c := by
  have key : ∀ l : List Piece, amongL (l.map (Piece.sh n)) c = amongL l c := fun l => by
    unfold amongL
    rw [List.length_map, among_sh]
  match l with
  | [] => rfl
  | [p] => exact key [p]
  | p :: q :: t =>
    have h1 := key (p :: q :: t)
    have h2 := key (q :: t)
    simp only [List.map_cons] at h1 h2
    simp only [List.map_cons, inL, sh_isB, h1, h2]
theorem setEnd_sh (n : Nat) (l : List Piece) : setEnd (l.map (Piece.sh n)) = setEnd l := by
  unfold setEnd
  rw [← List.map_drop, List.findIdx?_map]
  rfl
def Tok.sh (n : Nat) : Tok → Tok
  | .set l => .set (l.map (Piece.sh n))
  | t => t
theorem tokF_sh (n : Nat) : ∀ (f : Nat) (l : List Piece), tokF f (l.map (Piece.sh n)) = (tokF f l).map (Tok.sh n)
  | 0, _ => rfl
  | f + 1, [] => rfl
  | f + 1, p :: t => by
    simp only [List.map_cons, tokF, sh_isB, setEnd_sh, sh_c]
    have h := tokF_sh n f t
    split
    · rw [h]; rfl
    split
    · rw [h]; rfl
    split
    · cases hs : setEnd t with
      | none => simp only [h]; rfl
      | some j =>
        simp only [← List.map_drop, ← List.map_take, tokF_sh n f (t.drop (j + 1))]
        rfl
    · rw [h]; rfl
theorem Mt_sh (n : Nat) : ∀ (ts : List Tok) (u : List UInt8), Mt (ts.map (Tok.sh n)) u ↔ Mt ts u
  | [], u => Iff.rfl
  | t :: ts, u => by
    cases t with
    | star => exact exists_congr fun k => and_congr Iff.rfl (Mt_sh n ts _)
    | any => cases u with
      | nil => exact Iff.rfl
      | cons c v => exact Mt_sh n ts v
    | one d => cases u with
      | nil => exact Iff.rfl
      | cons c v => exact and_congr Iff.rfl (Mt_sh n ts v)
    | set l => cases u with
      | nil => exact Iff.rfl
      | cons c v =>
        show inL (l.map (Piece.sh n)) c = true ∧ Mt (ts.map (Tok.sh n)) v ↔ inL l c = true ∧ Mt ts v
        rw [in_sh, Mt_sh n ts v]
theorem Mt_shift (l s : List UInt8) (n : Nat) : Mt (toks (piecesOf l n)) s ↔ Mt (toks (piecesOf l 0)) s := by
  have h := pieces_shift n l 0
  rw [Nat.zero_add] at h
  rw [h]
  unfold toks
  rw [List.length_map, tokF_sh, Mt_sh]

theorem toks_append (B : List Piece) : ∀ (A : List Piece), (∀ x ∈ A, x.isB 91 = false) → toks (A ++ B) = toks A ++ toks B
  | [], _ => rfl
  | p :: A, h => by
    have hp := h p (List.mem_cons_self ..)
    have ih := toks_append B A fun x hx => h x (List.mem_cons_of_mem _ hx)
    rw [List.cons_append]
    cases h0 : p.isB 42 with
    | true => rw [toks_star h0, toks_star h0, ih]; rfl
    | false =>
      cases h1 : p.isB 63 with
      | true => rw [toks_any h0 h1, toks_any h0 h1, ih]; rfl
      | false => rw [toks_one h0 h1 (fun e => by rw [hp] at e; cases e), toks_one h0 h1 (fun e => by rw [hp] at e; cases e), ih]; rfl

theorem Mt_append (T : List Tok) : ∀ (ts : List Tok) (u : List UInt8), Mt (ts ++ T) u ↔ ∃ i, i ≤ u.length ∧ Mt ts (u.take i) ∧ Mt T (u.drop i)
  | [], u => by
    constructor
    · intro h; exact ⟨0, Nat.zero_le _, rfl, h⟩
    · rintro ⟨i, hi, h, ht⟩
      have h : u.take i = [] := h
      have hl := congrArg List.length h
      simp at hl
      rcases hl with rfl | rfl
      · exact ht
      · simpa using ht
  | t :: ts, u => by
    have one : ∀ (g : UInt8 → Prop) (X : List Tok → List UInt8 → Prop), (∀ ts', ¬ X ts' []) → (∀ ts' c v, X ts' (c :: v) ↔ g c ∧ Mt ts' v) →
        (X (ts ++ T) u ↔ ∃ i, i ≤ u.length ∧ X ts (u.take i) ∧ Mt T (u.drop i)) := by
      intro g X h0 h1
      cases u with
      | nil => exact ⟨fun h => absurd h (h0 _), fun ⟨i, _, h, _⟩ => by rw [List.take_nil] at h; exact absurd h (h0 _)⟩
      | cons c v =>
        rw [h1, Mt_append T ts v]
        constructor
        · rintro ⟨hg, i, hi, h2, h3⟩
          exact ⟨i + 1, by simpa using hi, (h1 _ _ _).2 ⟨hg, h2⟩, h3⟩
        · rintro ⟨i, hi, h2, h3⟩
          cases i with
          | zero => exact absurd h2 (h0 _)
          | succ i =>
            have := (h1 _ _ _).1 h2
            exact ⟨this.1, i, by simpa using hi, this.2, h3⟩
    cases t with
    | star =>
      show (∃ k, k ≤ u.length ∧ Mt (ts ++ T) (u.drop k)) ↔ ∃ i, i ≤ u.length ∧ (∃ k, k ≤ (u.take i).length ∧ Mt ts ((u.take i).drop k)) ∧ Mt T (u.drop i)
      constructor
      · rintro ⟨k, hk, h⟩
        obtain ⟨i, hi, h2, h3⟩ := (Mt_append T ts _).1 h
        rw [List.length_drop] at hi
        refine ⟨k + i, by omega, ⟨k, by rw [List.length_take]; omega, ?_⟩, by rw [List.drop_drop] at h3; exact h3⟩
        rw [List.drop_take, show k + i - k = i by omega]
        exact h2
      · rintro ⟨i, hi, ⟨k, hk, h2⟩, h3⟩
        rw [List.length_take] at hk
        refine ⟨k, by omega, (Mt_append T ts _).2 ⟨i - k, by rw [List.length_drop]; omega, ?_, ?_⟩⟩
        · rw [List.drop_take] at h2; exact h2
        · rw [List.drop_drop, show k + (i - k) = i by omega]; exact h3
    | any => exact one (fun _ => True) (fun ts' u' => Mt (.any :: ts') u') (fun _ h => h) (fun _ _ _ => ⟨fun h => ⟨trivial, h⟩, fun h => h.2⟩)
    | one d => exact one (fun c => d = c) (fun ts' u' => Mt (.one d :: ts') u') (fun _ h => h) (fun _ _ _ => Iff.rfl)
    | set l => exact one (fun c => inL l c = true) (fun ts' u' => Mt (.set l :: ts') u') (fun _ h => h) (fun _ _ _ => Iff.rfl)

theorem match_append {p : List UInt8} (ho : openOf p = false) (h91 : ∀ c ∈ p, c ≠ 91) (q s : List UInt8) :
    matchL (p ++ q) s = true ↔ ∃ i, i ≤ s.length ∧ matchL p (s.take i) = true ∧ matchL q (s.drop i) = true := by
  rw [matchL_iff, pieces_append q p 0 ho, toks_append _ _ (fun x hx => by
    have := h91 _ (pieces_mem x p 0 hx)
    show (((x.c.toNat : Int) == 91) && !x.dead) = false
    have hne : ¬ ((x.c.toNat : Int) = 91) := fun e => this (UInt8.toNat_inj.1 (by show x.c.toNat = 91; omega))
    simp [hne]), Mt_append]
  refine exists_congr fun i => and_congr Iff.rfl ?_
  rw [matchL_iff p, matchL_iff q, Mt_shift q]

theorem match_star (q s : List UInt8) : matchL (42 :: q) s = true ↔ ∃ k, k ≤ s.length ∧ matchL q (s.drop k) = true := by
  rw [matchL_iff]
  have hp : piecesOf (42 :: q) 0 = ⟨42, false, 0⟩ :: piecesOf q 1 := piecesOf_ne (by decide) q 0
  rw [hp, toks_star rfl]
  refine exists_congr fun k => and_congr Iff.rfl ?_
  rw [matchL_iff, Mt_shift]

/-- what the law reckons over the first i places -/
def partedN (p q s : List UInt8) (i : Nat) : Bool := (List.range i).any fun j => matchL p (s.take j) && matchL q (s.drop j)
def starIn (p q s : List UInt8) (i n : Nat) : Bool := (List.range n).any fun k => matchL p (s.take i) && matchL q (s.drop (i + k))
def starN (p q s : List UInt8) (i : Nat) : Bool := (List.range i).any fun j => starIn p q s j (s.length + 1 - j)

theorem partedN_succ (p q s : List UInt8) (i : Nat) : partedN p q s (i + 1) = (partedN p q s i || (matchL p (s.take i) && matchL q (s.drop i))) := by simp [partedN, List.range_succ]
theorem starIn_succ (p q s : List UInt8) (i k : Nat) : starIn p q s i (k + 1) = (starIn p q s i k || (matchL p (s.take i) && matchL q (s.drop (i + k)))) := by simp [starIn, List.range_succ]
theorem starN_succ (p q s : List UInt8) (i : Nat) : starN p q s (i + 1) = (starN p q s i || starIn p q s i (s.length + 1 - i)) := by simp [starN, List.range_succ]

theorem parted_law {p : List UInt8} (ho : openOf p = false) (h91 : ∀ c ∈ p, c ≠ 91) (q s : List UInt8) : matchL (p ++ q) s = partedN p q s (s.length + 1) := by
  rw [Bool.eq_iff_iff, match_append ho h91]
  simp only [partedN, List.any_eq_true, List.mem_range, Bool.and_eq_true]
  exact exists_congr fun i => and_congr (by omega) Iff.rfl
theorem star_law {p : List UInt8} (ho : openOf p = false) (h91 : ∀ c ∈ p, c ≠ 91) (q s : List UInt8) : matchL (p ++ 42 :: q) s = starN p q s (s.length + 1) := by
  rw [Bool.eq_iff_iff, match_append ho h91]
  simp only [starN, starIn, List.any_eq_true, List.mem_range, Bool.and_eq_true]
  constructor
  · rintro ⟨i, hi, h1, h2⟩
    obtain ⟨k, hk, h3⟩ := (match_star q _).1 h2
    rw [List.length_drop] at hk
    rw [List.drop_drop] at h3
    exact ⟨i, by omega, k, by omega, h1, h3⟩
  · rintro ⟨i, hi, k, hk, h1, h3⟩
    exact ⟨i, by omega, h1, (match_star q _).2 ⟨k, by rw [List.length_drop]; omega, by rw [List.drop_drop]; exact h3⟩⟩
end Go.Proofs.YtlhpflilpdceiaaGreatDoor

/- The plain laws of PatternParts: the parts of a closed text, a blank and another text are the parts of the one and of the other; each part is no empty text and its own one part. No program in sight. -/
set_option linter.unusedVariables false
set_option linter.unusedSimpArgs false
namespace Go.Proofs.YtlhpflilpdceiaaGreatDoor

theorem sh_blank (n : Nat) (p : Piece) : (p.sh n).blankB = p.blankB := rfl
theorem blank_ne {c : UInt8} (h : blankB c = true) : (c == 92) = false := by
  cases hh : c == 92 with
  | false => rfl
  | true =>
    have : c = 92 := by simpa using hh
    subst this
    exact absurd h (by decide)

theorem splitP_b (s : List UInt8) {p : Piece} (h : p.blankB = true) (t : List Piece) (f : Nat) : splitP s (p :: t) f = (if f < p.frm then [(s.take p.frm).drop f] else []) ++ splitP s t (p.frm + 1) := by
  simp only [splitP]; rw [if_pos h]
theorem splitP_n (s : List UInt8) {p : Piece} (h : p.blankB = false) (t : List Piece) (f : Nat) : splitP s (p :: t) f = splitP s t f := by
  simp only [splitP]; rw [if_neg (by simp [h])]

theorem splitP_shift (s : List UInt8) (m : Nat) : ∀ (L : List Piece) (f : Nat), splitP s (L.map (Piece.sh m)) (f + m) = splitP (s.drop m) L f
  | [], f => by
    simp only [List.map_nil, splitP, List.length_drop, List.drop_drop]
    rw [show m + f = f + m by omega]
    by_cases h : f + m < s.length
    · rw [if_pos h, if_pos (by omega)]
    · rw [if_neg h, if_neg (by omega)]
  | x :: L, f => by
    have ih1 := splitP_shift s m L f
    have ih2 := splitP_shift s m L (x.frm + 1)
    rw [List.map_cons]
    cases hb : x.blankB with
    | false => rw [splitP_n s (p := x.sh m) hb, splitP_n _ hb]; exact ih1
    | true =>
      rw [splitP_b s (p := x.sh m) hb, splitP_b _ hb]
      have hf : (x.sh m).frm = x.frm + m := rfl
      rw [hf, show x.frm + m + 1 = x.frm + 1 + m by omega, ih2]
      congr 1
      by_cases h : f < x.frm
      · rw [if_pos h, if_pos (by omega)]
        congr 1
        rw [List.drop_take, List.drop_take, List.drop_drop, show x.frm + m - (f + m) = x.frm - f by omega, show m + f = f + m by omega]
      · rw [if_neg h, if_neg (by omega)]

theorem splitP_append (a b : List UInt8) (c : UInt8) (hc : blankB c = true) (B : List Piece) : ∀ (A : List Piece) (f : Nat), f ≤ a.length → (∀ x ∈ A, x.frm < a.length) →
    splitP (a ++ c :: b) (A ++ ⟨c, false, a.length⟩ :: B) f = splitP a A f ++ splitP (a ++ c :: b) B (a.length + 1)
  | [], f, hf, _ => by
    have hb : (⟨c, false, a.length⟩ : Piece).blankB = true := by simp [Piece.blankB, hc]
    simp only [List.nil_append, splitP, hb, if_true]
    congr 1
    by_cases h : f < a.length
    · rw [if_pos h, if_pos h]; simp
    · rw [if_neg h, if_neg h]
  | x :: A, f, hf, hA => by
    have hx := hA x (List.mem_cons_self ..)
    have hA' := fun y hy => hA y (List.mem_cons_of_mem _ hy)
    rw [List.cons_append]
    cases hb : x.blankB with
    | false => rw [splitP_n _ hb, splitP_n _ hb]; exact splitP_append a b c hc B A f hf hA'
    | true =>
      rw [splitP_b _ hb, splitP_b _ hb]
      rw [splitP_append a b c hc B A (x.frm + 1) (by omega) hA', List.append_assoc]
      congr 1
      rw [List.take_append_of_le_length (by omega)]

theorem pieces_frm : ∀ (l : List UInt8) (i : Nat), ∀ x ∈ piecesOf l i, x.frm < i + l.length
  | [], i, x, h => by cases h
  | [c], i, x, h => by
    by_cases hc : (c == 92) = true
    · simp [piecesOf, hc] at h; subst h; simp
    · simp [piecesOf, hc] at h; subst h; simp
  | c :: d :: t, i, x, h => by
    by_cases hc : c = 92
    · subst hc
      simp only [piecesOf, beq_self_eq_true, if_true, List.mem_cons] at h
      rcases h with rfl | h
      · simp
      · have := pieces_frm t (i + 2) x h
        simp only [List.length_cons]; omega
    · have hc' : (c == 92) = false := by simpa using hc
      rw [show piecesOf (c :: d :: t) i = ⟨c, false, i⟩ :: piecesOf (d :: t) (i + 1) by simp [piecesOf, hc']] at h
      rcases List.mem_cons.1 h with rfl | h
      · simp
      · have := pieces_frm (d :: t) (i + 1) x h
        simp only [List.length_cons] at this ⊢; omega

theorem split_append {a : List UInt8} (ho : openOf a = false) {c : UInt8} (hc : blankB c = true) (b : List UInt8) : splitL (a ++ c :: b) = splitL a ++ splitL b := by
  have hp : piecesOf (a ++ c :: b) 0 = piecesOf a 0 ++ ⟨c, false, a.length⟩ :: piecesOf b (a.length + 1) := by
    rw [pieces_append (c :: b) a 0 ho, Nat.zero_add, piecesOf_ne (by simpa using blank_ne hc)]
  unfold splitL
  rw [hp, splitP_append a b c hc _ _ 0 (Nat.zero_le _) (fun x hx => by have := pieces_frm a 0 x hx; omega)]
  congr 1
  have h1 := pieces_shift (a.length + 1) b 0
  rw [Nat.zero_add] at h1
  have h2 := splitP_shift (a ++ c :: b) (a.length + 1) (piecesOf b 0) 0
  rw [Nat.zero_add] at h2
  rw [h1, h2]
  congr 1
  simp [List.drop_append]

theorem plain_append {a : List UInt8} (ho : openOf a = false) (b : List UInt8) : plainL (a ++ b) = plainL a ++ plainL b := by
  unfold plainL
  rw [pieces_append b a 0 ho, List.map_append]
  congr 1
  have h1 := pieces_shift (0 + a.length) b 0
  rw [Nat.zero_add, Nat.zero_add] at h1
  rw [Nat.zero_add, h1, List.map_map]
  rfl

/-- no piece of it is a living blank -/
def whole (l : List UInt8) : Prop := ∀ i, ∀ x ∈ piecesOf l i, x.blankB = false

theorem parts_or : ∀ (l : List UInt8), whole l ∨ ∃ a c b, l = a ++ c :: b ∧ openOf a = false ∧ blankB c = true ∧ whole a
  | [] => .inl fun i x h => by cases h
  | [c] => by
    cases hb : blankB c with
    | true => exact .inr ⟨[], c, [], rfl, rfl, hb, fun i x h => by cases h⟩
    | false =>
      refine .inl fun i x h => ?_
      by_cases hc : (c == 92) = true
      · simp [piecesOf, hc] at h; subst h; simp [Piece.blankB]
      · simp [piecesOf, hc] at h; subst h; simp [Piece.blankB, hb]
  | c :: d :: t => by
    by_cases hc : c = 92
    · subst hc
      have hp : ∀ (u : List UInt8) (i : Nat), piecesOf (92 :: d :: u) i = ⟨d, true, i⟩ :: piecesOf u (i + 2) := fun u i => by simp [piecesOf]
      have hd : ∀ (u : List UInt8), whole u → whole (92 :: d :: u) := fun u hu i x h => by
        rw [hp] at h
        rcases List.mem_cons.1 h with rfl | h
        · simp [Piece.blankB]
        · exact hu _ x h
      rcases parts_or t with h | ⟨a, e, b, rfl, ho, he, hw⟩
      · exact .inl (hd t h)
      · exact .inr ⟨92 :: d :: a, e, b, rfl, by simpa [openOf] using ho, he, hd a hw⟩
    · have hc' : (c == 92) = false := by simpa using hc
      cases hb : blankB c with
      | true => exact .inr ⟨[], c, d :: t, rfl, rfl, hb, fun i x h => by cases h⟩
      | false =>
        have hp : ∀ (u : List UInt8) (i : Nat), piecesOf (c :: u) i = ⟨c, false, i⟩ :: piecesOf u (i + 1) := fun u i => piecesOf_ne (by simpa using hc) u i
        have hd : ∀ (u : List UInt8), whole u → whole (c :: u) := fun u hu i x h => by
          rw [hp] at h
          rcases List.mem_cons.1 h with rfl | h
          · simp [Piece.blankB, hb]
          · exact hu _ x h
        rcases parts_or (d :: t) with h | ⟨a, e, b, hl, ho, he, hw⟩
        · exact .inl (hd _ h)
        · refine .inr ⟨c :: a, e, b, by rw [hl]; rfl, ?_, he, hd a hw⟩
          cases a with
          | nil => simp [openOf, hc']
          | cons x a => simpa [openOf, hc'] using ho

theorem split_whole {l : List UInt8} (h : whole l) : splitL l = if 0 < l.length then [l] else [] := splitP_inert l (piecesOf l 0) 0 (h 0)

/-- each part is no empty text and its own one part -/
theorem split_parts : ∀ (n : Nat) (l : List UInt8), l.length ≤ n → ∀ z ∈ splitL l, 0 < z.length ∧ z.length ≤ l.length ∧ splitL z = [z]
  | 0, l, h, z, hz => by
    obtain rfl : l = [] := List.eq_nil_of_length_eq_zero (by omega)
    cases hz
  | n + 1, l, h, z, hz => by
    have whole_of : ∀ a : List UInt8, whole a → ∀ z ∈ splitL a, 0 < z.length ∧ z.length ≤ a.length ∧ splitL z = [z] := fun a hw z hz => by
      rw [split_whole hw] at hz
      by_cases hl : 0 < a.length
      · rw [if_pos hl, List.mem_singleton] at hz
        subst hz
        exact ⟨hl, Nat.le_refl _, by rw [split_whole hw, if_pos hl]⟩
      · rw [if_neg hl] at hz; cases hz
    rcases parts_or l with hw | ⟨a, c, b, rfl, ho, hc, hw⟩
    · exact whole_of l hw z hz
    · rw [split_append ho hc] at hz
      rw [List.length_append, List.length_cons] at h ⊢
      rcases List.mem_append.1 hz with hz | hz
      · obtain ⟨h1, h2, h3⟩ := whole_of a hw z hz
        exact ⟨h1, by omega, h3⟩
      · obtain ⟨h1, h2, h3⟩ := split_parts n b (by omega) z hz
        exact ⟨h1, by omega, h3⟩

theorem splitP_len (s : List UInt8) : ∀ (L : List Piece) (f : Nat), (splitP s L f).length ≤ L.length + 1
  | [], f => by simp only [splitP]; split <;> simp
  | x :: L, f => by
    simp only [splitP, List.length_cons]
    have h1 := splitP_len s L f
    have h2 := splitP_len s L (x.frm + 1)
    split
    · rw [List.length_append]; split <;> simp <;> omega
    · omega
theorem split_len (l : List UInt8) : (splitL l).length ≤ l.length + 1 := by
  have h1 := splitP_len l (piecesOf l 0) 0
  have h2 := piecesOf_length_le l 0
  unfold splitL
  omega
end Go.Proofs.YtlhpflilpdceiaaGreatDoor
