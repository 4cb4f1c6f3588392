/- The plain laws of PatternStars: a closed pattern without a bracket, and one behind it, match a text just where it parts in two. No program in sight. -/
import Derived.Test.YtckcpokfjofcaaaDoorPatL
set_option linter.unusedVariables false
set_option linter.unusedSimpArgs false
namespace Go.Proofs.YtckcpokfjofcaaaDoor

def Piece.sh (n : Nat) (p : Piece) : Piece := ⟨p.c, p.dead, p.frm + n⟩
theorem sh_isB (n : Nat) (p : Piece) (d : Int) : (p.sh n).isB d = p.isB d := rfl
theorem sh_c (n : Nat) (p : Piece) : (p.sh n).c = p.c := rfl

theorem pieces_shift (n : Nat) : ∀ (l : List UInt8) (i : Nat), piecesOf l (i + n) = (piecesOf l i).map (Piece.sh n)
  | [], i => rfl
  | [c], i => by
    simp only [piecesOf]
    split <;> simp [Piece.sh, piecesOf]
  | c :: d :: t, i => by
    by_cases hc : c = 92
    · subst hc
      have h := pieces_shift n t (i + 2)
      simp only [piecesOf, beq_self_eq_true, if_true, List.map_cons]
      rw [show i + n + 2 = i + 2 + n by omega, h]
      rfl
    · have h := pieces_shift n (d :: t) (i + 1)
      have hc' : (c == 92) = false := by simpa using hc
      rw [show piecesOf (c :: d :: t) (i + n) = ⟨c, false, i + n⟩ :: piecesOf (d :: t) (i + n + 1) by simp [piecesOf, hc'], show piecesOf (c :: d :: t) i = ⟨c, false, i⟩ :: piecesOf (d :: t) (i + 1) by simp [piecesOf, hc'], show i + n + 1 = i + 1 + n by omega, h]
      rfl

theorem pieces_append (q : List UInt8) : ∀ (p : List UInt8) (i : Nat), openOf p = false → piecesOf (p ++ q) i = piecesOf p i ++ piecesOf q (i + p.length)
  | [], i, _ => rfl
  | [c], i, h => by
    have hc : (c == 92) = false := by
      cases hh : c == 92 with
      | false => rfl
      | true => simp [openOf, hh] at h
    show piecesOf (c :: q) i = piecesOf [c] i ++ _
    cases q with
    | nil => simp [piecesOf]
    | cons d t => simp [piecesOf, hc]
  | c :: d :: t, i, h => by
    by_cases hc : c = 92
    · subst hc
      have ho : openOf t = false := by simpa [openOf] using h
      have h2 := pieces_append q t (i + 2) ho
      show piecesOf (92 :: d :: (t ++ q)) i = _
      simp only [piecesOf, beq_self_eq_true, if_true, List.cons_append, List.length_cons]
      rw [h2, show i + 2 + t.length = i + (t.length + 1 + 1) by omega]
    · have hc' : (c == 92) = false := by simpa using hc
      have ho : openOf (d :: t) = false := by
        have : openOf (c :: d :: t) = openOf (d :: t) := by simp [openOf, hc']
        rw [← this]; exact h
      have h2 := pieces_append q (d :: t) (i + 1) ho
      rw [show piecesOf (c :: d :: t) i = ⟨c, false, i⟩ :: piecesOf (d :: t) (i + 1) by simp [piecesOf, hc'], show (c :: d :: t) ++ q = c :: ((d :: t) ++ q) from rfl,
        show piecesOf (c :: ((d :: t) ++ q)) i = ⟨c, false, i⟩ :: piecesOf ((d :: t) ++ q) (i + 1) by simp [piecesOf, hc'], h2]
      simp only [List.cons_append, List.length_cons]
      rw [show i + 1 + (t.length + 1) = i + (t.length + 1 + 1) by omega]

theorem pieces_mem (x : Piece) : ∀ (l : List UInt8) (i : Nat), x ∈ piecesOf l i → x.c ∈ l
  | [], i, h => by cases h
  | [c], i, h => by
    by_cases hc : c = 92
    · subst hc
      simp [piecesOf] at h
      subst h; simp
    · have hc' : (c == 92) = false := by simpa using hc
      simp [piecesOf, hc'] at h
      subst h; simp
  | c :: d :: t, i, h => by
    by_cases hc : c = 92
    · subst hc
      simp only [piecesOf, beq_self_eq_true, if_true, List.mem_cons] at h
      rcases h with rfl | h
      · simp
      · have := pieces_mem x t (i + 2) h; simp [this]
    · have hc' : (c == 92) = false := by simpa using hc
      rw [show piecesOf (c :: d :: t) i = ⟨c, false, i⟩ :: piecesOf (d :: t) (i + 1) by simp [piecesOf, hc']] at h
      rcases List.mem_cons.1 h with rfl | h
      · simp
      · exact List.mem_cons_of_mem _ (pieces_mem x (d :: t) (i + 1) h)

theorem among_sh (n : Nat) (c : UInt8) : ∀ (f : Nat) (l : List Piece), amongF f (l.map (Piece.sh n)) c = amongF f l c
  | 0, _ => rfl
  | f + 1, [] => rfl
  | f + 1, [p] => by
    simp only [List.map_cons, List.map_nil, amongF, sh_c]
    rfl
  | f + 1, [p, q] => by
    have h := among_sh n c f [q]
    simp only [List.map_cons, List.map_nil] at h
    simp only [List.map_cons, List.map_nil, amongF, sh_c, h]
  | f + 1, p :: q :: r :: t => by
    have h := among_sh n c f (q :: r :: t)
    have h2 := among_sh n c f t
    simp only [List.map_cons] at h
    simp only [List.map_cons, amongF, sh_c, sh_isB, h, h2]
theorem in_sh (n : Nat) (c : UInt8) (l : List Piece) : inL (l.map (Piece.sh n)) c = inL l c := by
  have key : ∀ l : List Piece, amongL (l.map (Piece.sh n)) c = amongL l c := fun l => by
    unfold amongL
    rw [List.length_map, among_sh]
  match l with
  | [] => rfl
  | [p] => exact key [p]
  | p :: q :: t =>
    have h1 := key (p :: q :: t)
    have h2 := key (q :: t)
    simp only [List.map_cons] at h1 h2
    simp only [List.map_cons, inL, sh_isB, h1, h2]
theorem setEnd_sh (n : Nat) (l : List Piece) : setEnd (l.map (Piece.sh n)) = setEnd l := by
  unfold setEnd
  rw [← List.map_drop, List.findIdx?_map]
  rfl
def Tok.sh (n : Nat) : Tok → Tok
  | .set l => .set (l.map (Piece.sh n))
  | t => t
theorem tokF_sh (n : Nat) : ∀ (f : Nat) (l : List Piece), tokF f (l.map (Piece.sh n)) = (tokF f l).map (Tok.sh n)
  | 0, _ => rfl
  | f + 1, [] => rfl
  | f + 1, p :: t => by
    simp only [List.map_cons, tokF, sh_isB, setEnd_sh, sh_c]
    have h := tokF_sh n f t
    split
    · rw [h]; rfl
    split
    · rw [h]; rfl
    split
    · cases hs : setEnd t with
      | none => simp only [h]; rfl
      | some j =>
        simp only [← List.map_drop, ← List.map_take, tokF_sh n f (t.drop (j + 1))]
        rfl
    · rw [h]; rfl
theorem Mt_sh (n : Nat) : ∀ (ts : List Tok) (u : List UInt8), Mt (ts.map (Tok.sh n)) u ↔ Mt ts u
  | [], u => Iff.rfl
  | t :: ts, u => by
    cases t with
    | star => exact exists_congr fun k => and_congr Iff.rfl (Mt_sh n ts _)
    | any => cases u with
      | nil => exact Iff.rfl
      | cons c v => exact Mt_sh n ts v
    | one d => cases u with
      | nil => exact Iff.rfl
      | cons c v => exact and_congr Iff.rfl (Mt_sh n ts v)
    | set l => cases u with
      | nil => exact Iff.rfl
      | cons c v =>
        show inL (l.map (Piece.sh n)) c = true ∧ Mt (ts.map (Tok.sh n)) v ↔ inL l c = true ∧ Mt ts v
        rw [in_sh, Mt_sh n ts v]
theorem Mt_shift (l s : List UInt8) (n : Nat) : Mt (toks (piecesOf l n)) s ↔ Mt (toks (piecesOf l 0)) s := by
  have h := pieces_shift n l 0
  rw [Nat.zero_add] at h
  rw [h]
  unfold toks
  rw [List.length_map, tokF_sh, Mt_sh]

theorem toks_append (B : List Piece) : ∀ (A : List Piece), (∀ x ∈ A, x.isB 91 = false) → toks (A ++ B) = toks A ++ toks B
  | [], _ => rfl
  | p :: A, h => by
    have hp := h p (List.mem_cons_self ..)
    have ih := toks_append B A fun x hx => h x (List.mem_cons_of_mem _ hx)
    rw [List.cons_append]
    cases h0 : p.isB 42 with
    | true => rw [toks_star h0, toks_star h0, ih]; rfl
    | false =>
      cases h1 : p.isB 63 with
      | true => rw [toks_any h0 h1, toks_any h0 h1, ih]; rfl
      | false => rw [toks_one h0 h1 (fun e => by rw [hp] at e; cases e), toks_one h0 h1 (fun e => by rw [hp] at e; cases e), ih]; rfl

theorem Mt_append (T : List Tok) : ∀ (ts : List Tok) (u : List UInt8), Mt (ts ++ T) u ↔ ∃ i, i ≤ u.length ∧ Mt ts (u.take i) ∧ Mt T (u.drop i)
  | [], u => by
    constructor
    · intro h; exact ⟨0, Nat.zero_le _, rfl, h⟩
    · rintro ⟨i, hi, h, ht⟩
      have h : u.take i = [] := h
      have hl := congrArg List.length h
      simp at hl
      rcases hl with rfl | rfl
      · exact ht
      · simpa using ht
  | t :: ts, u => by
    have one : ∀ (g : UInt8 → Prop) (X : List Tok → List UInt8 → Prop), (∀ ts', ¬ X ts' []) → (∀ ts' c v, X ts' (c :: v) ↔ g c ∧ Mt ts' v) →
        (X (ts ++ T) u ↔ ∃ i, i ≤ u.length ∧ X ts (u.take i) ∧ Mt T (u.drop i)) := by
      intro g X h0 h1
      cases u with
      | nil => exact ⟨fun h => absurd h (h0 _), fun ⟨i, _, h, _⟩ => by rw [List.take_nil] at h; exact absurd h (h0 _)⟩
      | cons c v =>
        rw [h1, Mt_append T ts v]
        constructor
        · rintro ⟨hg, i, hi, h2, h3⟩
          exact ⟨i + 1, by simpa using hi, (h1 _ _ _).2 ⟨hg, h2⟩, h3⟩
        · rintro ⟨i, hi, h2, h3⟩
          cases i with
          | zero => exact absurd h2 (h0 _)
          | succ i =>
            have := (h1 _ _ _).1 h2
            exact ⟨this.1, i, by simpa using hi, this.2, h3⟩
    cases t with
    | star =>
      show (∃ k, k ≤ u.length ∧ Mt (ts ++ T) (u.drop k)) ↔ ∃ i, i ≤ u.length ∧ (∃ k, k ≤ (u.take i).length ∧ Mt ts ((u.take i).drop k)) ∧ Mt T (u.drop i)
      constructor
      · rintro ⟨k, hk, h⟩
        obtain ⟨i, hi, h2, h3⟩ := (Mt_append T ts _).1 h
        rw [List.length_drop] at hi
        refine ⟨k + i, by omega, ⟨k, by rw [List.length_take]; omega, ?_⟩, by rw [List.drop_drop] at h3; exact h3⟩
        rw [List.drop_take, show k + i - k = i by omega]
        exact h2
      · rintro ⟨i, hi, ⟨k, hk, h2⟩, h3⟩
        rw [List.length_take] at hk
        refine ⟨k, by omega, (Mt_append T ts _).2 ⟨i - k, by rw [List.length_drop]; omega, ?_, ?_⟩⟩
        · rw [List.drop_take] at h2; exact h2
        · rw [List.drop_drop, show k + (i - k) = i by omega]; exact h3
    | any => exact one (fun _ => True) (fun ts' u' => Mt (.any :: ts') u') (fun _ h => h) (fun _ _ _ => ⟨fun h => ⟨trivial, h⟩, fun h => h.2⟩)
    | one d => exact one (fun c => d = c) (fun ts' u' => Mt (.one d :: ts') u') (fun _ h => h) (fun _ _ _ => Iff.rfl)
    | set l => exact one (fun c => inL l c = true) (fun ts' u' => Mt (.set l :: ts') u') (fun _ h => h) (fun _ _ _ => Iff.rfl)

theorem match_append {p : List UInt8} (ho : openOf p = false) (h91 : ∀ c ∈ p, c ≠ 91) (q s : List UInt8) :
    matchL (p ++ q) s = true ↔ ∃ i, i ≤ s.length ∧ matchL p (s.take i) = true ∧ matchL q (s.drop i) = true := by
  rw [matchL_iff, pieces_append q p 0 ho, toks_append _ _ (fun x hx => by
    have := h91 _ (pieces_mem x p 0 hx)
    show (((x.c.toNat : Int) == 91) && !x.dead) = false
    have hne : ¬ ((x.c.toNat : Int) = 91) := fun e => this (UInt8.toNat_inj.1 (by show x.c.toNat = 91; omega))
    simp [hne]), Mt_append]
  refine exists_congr fun i => and_congr Iff.rfl ?_
  rw [matchL_iff p, matchL_iff q, Mt_shift q]

theorem match_star (q s : List UInt8) : matchL (42 :: q) s = true ↔ ∃ k, k ≤ s.length ∧ matchL q (s.drop k) = true := by
  rw [matchL_iff]
  have hp : piecesOf (42 :: q) 0 = ⟨42, false, 0⟩ :: piecesOf q 1 := piecesOf_ne (by decide) q 0
  rw [hp, toks_star rfl]
  refine exists_congr fun k => and_congr Iff.rfl ?_
  rw [matchL_iff, Mt_shift]

/-- what the law reckons over the first i places -/
def partedN (p q s : List UInt8) (i : Nat) : Bool := (List.range i).any fun j => matchL p (s.take j) && matchL q (s.drop j)
def starIn (p q s : List UInt8) (i n : Nat) : Bool := (List.range n).any fun k => matchL p (s.take i) && matchL q (s.drop (i + k))
def starN (p q s : List UInt8) (i : Nat) : Bool := (List.range i).any fun j => starIn p q s j (s.length + 1 - j)

theorem partedN_succ (p q s : List UInt8) (i : Nat) : partedN p q s (i + 1) = (partedN p q s i || (matchL p (s.take i) && matchL q (s.drop i))) := by simp [partedN, List.range_succ]
theorem starIn_succ (p q s : List UInt8) (i k : Nat) : starIn p q s i (k + 1) = (starIn p q s i k || (matchL p (s.take i) && matchL q (s.drop (i + k)))) := by simp [starIn, List.range_succ]
theorem starN_succ (p q s : List UInt8) (i : Nat) : starN p q s (i + 1) = (starN p q s i || starIn p q s i (s.length + 1 - i)) := by simp [starN, List.range_succ]

theorem parted_law {p : List UInt8} (ho : openOf p = false) (h91 : ∀ c ∈ p, c ≠ 91) (q s : List UInt8) : matchL (p ++ q) s = partedN p q s (s.length + 1) := by
  rw [Bool.eq_iff_iff, match_append ho h91]
  simp only [partedN, List.any_eq_true, List.mem_range, Bool.and_eq_true]
  exact exists_congr fun i => and_congr (by omega) Iff.rfl
theorem star_law {p : List UInt8} (ho : openOf p = false) (h91 : ∀ c ∈ p, c ≠ 91) (q s : List UInt8) : matchL (p ++ 42 :: q) s = starN p q s (s.length + 1) := by
  rw [Bool.eq_iff_iff, match_append ho h91]
  simp only [starN, starIn, List.any_eq_true, List.mem_range, Bool.and_eq_true]
  constructor
  · rintro ⟨i, hi, h1, h2⟩
    obtain ⟨k, hk, h3⟩ := (match_star q _).1 h2
    rw [List.length_drop] at hk
    rw [List.drop_drop] at h3
    exact ⟨i, by omega, k, by omega, h1, h3⟩
  · rintro ⟨i, hi, k, hk, h1, h3⟩
    exact ⟨i, by omega, h1, (match_star q _).2 ⟨k, by rw [List.length_drop]; omega, by rw [List.drop_drop]; exact h3⟩⟩
end Go.Proofs.YtckcpokfjofcaaaDoor
