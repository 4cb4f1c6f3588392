/- Live text, patterns and parts as plain functions on lists of bytes (chapter 2), with no program in sight. No condition. -/
import Derived.WalkKit
set_option linter.unusedVariables false
set_option linter.unusedSimpArgs false
namespace Go.Proofs.YtpogngdddendiaaDoor

structure Piece where
  c : UInt8
  dead : Bool
  frm : Nat
  deriving DecidableEq, Inhabited

def Piece.isB (p : Piece) (d : Int) : Bool := (p.c.toNat : Int) == d && !p.dead
def blankB (c : UInt8) : Bool := c == 32 || c == 9 || c == 10
def Piece.blankB (p : Piece) : Bool := YtpogngdddendiaaDoor.blankB p.c && !p.dead

def piecesOf : List UInt8 → Nat → List Piece
  | [], _ => []
  | c :: t, i =>
    if c == 92 then
      match t with
      | [] => [⟨92, true, i⟩]
      | d :: t' => ⟨d, true, i⟩ :: piecesOf t' (i + 2)
    else ⟨c, false, i⟩ :: piecesOf t (i + 1)

def openOf : List UInt8 → Bool
  | [] => false
  | c :: t =>
    if c == 92 then
      match t with
      | [] => true
      | _ :: t' => openOf t'
    else openOf t

theorem piecesOf_ne {c : UInt8} (h : c ≠ 92) (t : List UInt8) (i : Nat) : piecesOf (c :: t) i = ⟨c, false, i⟩ :: piecesOf t (i + 1) := by rw [piecesOf.eq_def]; simp [h]
theorem piecesOf_esc (d : UInt8) (t : List UInt8) (i : Nat) : piecesOf (92 :: d :: t) i = ⟨d, true, i⟩ :: piecesOf t (i + 2) := by rw [piecesOf.eq_def]; simp
theorem piecesOf_last (i : Nat) : piecesOf [92] i = [⟨92, true, i⟩] := by rw [piecesOf.eq_def]; simp
theorem openOf_ne {c : UInt8} (h : c ≠ 92) (t : List UInt8) : openOf (c :: t) = openOf t := by rw [openOf.eq_def]; simp [h]
theorem openOf_esc (d : UInt8) (t : List UInt8) : openOf (92 :: d :: t) = openOf t := by rw [openOf.eq_def]; simp
theorem openOf_last : openOf [92] = true := by rw [openOf.eq_def]; simp

/-- An induction over live text: as the pieces are cut. -/
theorem text_induct {P : List UInt8 → Prop} (h0 : P []) (h1 : P [92]) (h2 : ∀ d t, P t → P (92 :: d :: t)) (h3 : ∀ c t, c ≠ 92 → P t → P (c :: t)) : ∀ l, P l := by
  intro l
  induction hn : l.length using Nat.strongRecOn generalizing l with
  | _ n ih =>
    match l with
    | [] => exact h0
    | c :: t =>
      by_cases hc : c = 92
      · subst hc
        match t with
        | [] => exact h1
        | d :: t' => exact h2 d t' (ih t'.length (by simp at hn; omega) t' rfl)
      · exact h3 c t hc (ih t.length (by simp at hn; omega) t rfl)

theorem piecesOf_length_le (l : List UInt8) : ∀ i, (piecesOf l i).length ≤ l.length := by
  induction l using text_induct with
  | h0 => intro i; simp [piecesOf]
  | h1 => intro i; simp [piecesOf_last]
  | h2 d t ih => intro i; rw [piecesOf_esc]; have := ih (i + 2); simp; omega
  | h3 c t hc ih => intro i; rw [piecesOf_ne hc]; have := ih (i + 1); simp; omega

/-- where the set ends, the rest being the pieces from place k on -/
def endAt : List Piece → Nat → Int
  | [], _ => -1
  | p :: t, k => if p.isB 93 then k else endAt t (k + 1)

def escB (c : UInt8) : Bool := c == 42 || c == 63 || c == 91 || c == 93 || c == 92 || blankB c
def escapeL (l : List UInt8) : List UInt8 := l.flatMap fun c => if escB c then [92, c] else [c]
def plainL (l : List UInt8) : List UInt8 := (piecesOf l 0).map (·.c)

/-- is a byte one of these, or of their ranges -/
def amongF : Nat → List Piece → UInt8 → Bool
  | 0, _, _ => false
  | _ + 1, [], _ => false
  | f + 1, p :: t, c =>
    match t with
    | q :: r :: t' => if q.isB 45 then (if p.c ≤ c ∧ c ≤ r.c then true else amongF f t' c) else (if p.c = c then true else amongF f t c)
    | _ => if p.c = c then true else amongF f t c
def amongL (l : List Piece) (c : UInt8) : Bool := amongF l.length l c

theorem amongF_fuel : ∀ (f g : Nat) (l : List Piece) (c : UInt8), l.length ≤ f → l.length ≤ g → amongF f l c = amongF g l c
  | 0, 0, _, _, _, _ => rfl
  | 0, g + 1, l, c, h, _ => by
    have : l = [] := List.eq_nil_of_length_eq_zero (by omega)
    subst this; rfl
  | f + 1, 0, l, c, _, h => by
    have : l = [] := List.eq_nil_of_length_eq_zero (by omega)
    subst this; rfl
  | f + 1, g + 1, [], c, _, _ => rfl
  | f + 1, g + 1, [p], c, _, _ => by simp only [amongF]; rw [amongF_fuel f g [] c (by simp) (by simp)]
  | f + 1, g + 1, [p, q], c, hf, hg => by
    simp only [amongF]; rw [amongF_fuel f g [q] c (by simp at hf ⊢; omega) (by simp at hg ⊢; omega)]
  | f + 1, g + 1, p :: q :: r :: t, c, hf, hg => by
    simp only [amongF]
    rw [amongF_fuel f g t c (by simp at hf; omega) (by simp at hg; omega), amongF_fuel f g (q :: r :: t) c (by simp at hf ⊢; omega) (by simp at hg ⊢; omega)]

theorem amongL_nil (c : UInt8) : amongL [] c = false := rfl
theorem amongL_range {p q r : Piece} {t : List Piece} {c : UInt8} (h : q.isB 45 = true) : amongL (p :: q :: r :: t) c = if p.c ≤ c ∧ c ≤ r.c then true else amongL t c := by
  unfold amongL
  simp only [List.length_cons, amongF, h, if_true]
  rw [amongF_fuel (t.length + 1 + 1) t.length t c (by omega) (by omega)]
theorem amongL_plain {p : Piece} {t : List Piece} {c : UInt8} (h : ∀ q r t', t = q :: r :: t' → q.isB 45 = false) : amongL (p :: t) c = if p.c = c then true else amongL t c := by
  unfold amongL
  match t with
  | [] => rfl
  | [q] => simp only [List.length_cons, amongF]
  | q :: r :: t' =>
    have := h q r t' rfl
    simp only [List.length_cons, amongF, this]
    simp

def inL (l : List Piece) (c : UInt8) : Bool :=
  match l with
  | p :: q :: t => if p.isB 94 then !amongL (q :: t) c else amongL l c
  | _ => amongL l c

/-- the parts of a pattern -/
inductive Tok where
  | star
  | any
  | set (l : List Piece)
  | one (c : UInt8)

def Tok.ok : Tok → UInt8 → Bool
  | .star, _ => false
  | .any, _ => true
  | .set l, c => inL l c
  | .one d, c => d == c

/-- how many pieces behind the bracket lie ahead of the bracket's end, if it has one -/
def setEnd (t : List Piece) : Option Nat := ((t.drop 1).findIdx? (·.isB 93)).map (· + 1)

def tokF : Nat → List Piece → List Tok
  | 0, _ => []
  | _ + 1, [] => []
  | f + 1, p :: t =>
    if p.isB 42 then .star :: tokF f t
    else if p.isB 63 then .any :: tokF f t
    else if p.isB 91 then
      match setEnd t with
      | some j => .set (t.take j) :: tokF f (t.drop (j + 1))
      | none => .one p.c :: tokF f t
    else .one p.c :: tokF f t
def toks (l : List Piece) : List Tok := tokF l.length l

theorem tokF_fuel : ∀ (f g : Nat) (l : List Piece), l.length ≤ f → l.length ≤ g → tokF f l = tokF g l
  | 0, 0, _, _, _ => rfl
  | 0, g + 1, l, h, _ => by
    have : l = [] := List.eq_nil_of_length_eq_zero (by omega)
    subst this; rfl
  | f + 1, 0, l, _, h => by
    have : l = [] := List.eq_nil_of_length_eq_zero (by omega)
    subst this; rfl
  | f + 1, g + 1, [], _, _ => rfl
  | f + 1, g + 1, p :: t, hf, hg => by
    simp only [List.length_cons] at hf hg
    simp only [tokF]
    rw [tokF_fuel f g t (by omega) (by omega)]
    cases setEnd t with
    | none => rfl
    | some j => simp only []; rw [tokF_fuel f g (t.drop (j + 1)) (by simp; omega) (by simp; omega)]

theorem toks_nil : toks [] = [] := rfl
theorem toks_star {p : Piece} {t : List Piece} (h : p.isB 42 = true) : toks (p :: t) = .star :: toks t := by
  simp only [toks, List.length_cons, tokF, h, if_true]
theorem toks_any {p : Piece} {t : List Piece} (h0 : p.isB 42 = false) (h : p.isB 63 = true) : toks (p :: t) = .any :: toks t := by
  simp only [toks, List.length_cons, tokF, h0, h, if_true]; simp
theorem toks_set {p : Piece} {t : List Piece} {j : Nat} (h0 : p.isB 42 = false) (h1 : p.isB 63 = false) (h : p.isB 91 = true) (hj : setEnd t = some j) : toks (p :: t) = .set (t.take j) :: toks (t.drop (j + 1)) := by
  simp only [toks, List.length_cons, tokF, h0, h1, h, hj, if_true]
  simp only [Bool.false_eq_true, if_false]
  rw [tokF_fuel t.length (t.drop (j + 1)).length _ (by simp) (Nat.le_refl _)]
theorem toks_one {p : Piece} {t : List Piece} (h0 : p.isB 42 = false) (h1 : p.isB 63 = false) (h : p.isB 91 = true → setEnd t = none) : toks (p :: t) = .one p.c :: toks t := by
  simp only [toks, List.length_cons, tokF, h0, h1]
  cases hb : p.isB 91 with
  | false => simp
  | true => simp [h hb]

/-- one step of the places that may be reached -/
def stepT (s : List UInt8) (at_ : List Bool) : Tok → List Bool
  | .star => (List.range at_.length).map fun k => (at_.take (k + 1)).any id
  | t => (List.range at_.length).map fun k => match k with
    | 0 => false
    | j + 1 => at_.getD j false && t.ok (s.getD j 0)
def runT (s : List UInt8) (l : List Tok) (at_ : List Bool) : List Bool := l.foldl (stepT s) at_
def matchL (p s : List UInt8) : Bool := (runT s (toks (piecesOf p 0)) (true :: List.replicate s.length false)).getD s.length false

/-- is a pattern byte in it -/
def liveP : List Piece → Bool
  | [] => false
  | p :: t => p.isB 42 || p.isB 63 || (p.isB 91 && (setEnd t).isSome) || liveP t
def liveL (l : List UInt8) : Bool := liveP (piecesOf l 0)

/-- the parts between living blanks: from where the part begins, what is cut -/
def splitP (s : List UInt8) : List Piece → Nat → List (List UInt8)
  | [], frm => if frm < s.length then [s.drop frm] else []
  | p :: t, frm =>
    if p.blankB then (if frm < p.frm then [(s.take p.frm).drop frm] else []) ++ splitP s t (p.frm + 1)
    else splitP s t frm
def splitL (s : List UInt8) : List (List UInt8) := splitP s (piecesOf s 0) 0
end Go.Proofs.YtpogngdddendiaaDoor
