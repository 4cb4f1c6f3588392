/- Live text, patterns and parts as plain functions on lists of bytes (chapter 2), with no program in sight. No condition. -/
import Derived.WalkKit
set_option linter.unusedVariables false
set_option linter.unusedSimpArgs false
namespace Go.Proofs.YtlhpflilpdceiaaGreatDoor

structure Piece where
  c : UInt8
  dead : Bool
  frm : Nat
  deriving DecidableEq, Inhabited

def Piece.isB (p : Piece) (d : Int) : Bool := (p.c.toNat : Int) == d && !p.dead
def blankB (c : UInt8) : Bool := c == 32 || c == 9 || c == 10
def Piece.blankB (p : Piece) : Bool := YtlhpflilpdceiaaGreatDoor.blankB p.c && !p.dead

def piecesOf : List UInt8 → Nat → List Piece
  | [], _ => []
  | c :: t, i =>
    if c == 92 then
      match t with
      | [] => [⟨92, true, i⟩]
      | d :: t' => ⟨d, true, i⟩ :: piecesOf t' (i + 2)
    else ⟨c, false, i⟩ :: piecesOf t (i + 1)

def openOf : List UInt8 → Bool
  | [] => false
  | c :: t =>
    if c == 92 then
      match t with
      | [] => true
      | _ :: t' => openOf t'
    else openOf t

theorem piecesOf_ne {c : UInt8} (h : c ≠ 92) (t : List UInt8) (i : Nat) : piecesOf (c :: t) i = ⟨c, false, i⟩ :: piecesOf t (i + 1) := by rw [piecesOf.eq_def]; simp [h]
theorem piecesOf_esc (d : UInt8) (t : List UInt8) (i : Nat) : piecesOf (92 :: d :: t) i = ⟨d, true, i⟩ :: piecesOf t (i + 2) := by rw [piecesOf.eq_def]; simp
theorem piecesOf_last (i : Nat) : piecesOf [92] i = [⟨92, true, i⟩] := by rw [piecesOf.eq_def]; simp
theorem openOf_ne {c : UInt8} (h : c ≠ 92) (t : List UInt8) : openOf (c :: t) = openOf t := by rw [openOf.eq_def]; simp [h]
theorem openOf_esc (d : UInt8) (t : List UInt8) : openOf (92 :: d :: t) = openOf t := by rw [openOf.eq_def]; simp
theorem openOf_last : openOf [92] = true := by rw [openOf.eq_def]; simp

/-- An induction over live text: as the pieces are cut. -/
theorem text_induct {P : List UInt8 → Prop} (h0 : P []) (h1 : P [92]) (h2 : ∀ d t, P t → P (92 :: d :: t)) (h3 : ∀ c t, c ≠ 92 → P t → P (c :: t)) : ∀ l, P l := by
  intro l
  induction hn : l.length using Nat.strongRecOn generalizing l with
  | _ n ih =>
    match l with
    | [] => exact h0
    | c :: t =>
      by_cases hc : c = 92
      · subst hc
        match t with
        | [] => exact h1
        | d :: t' => exact h2 d t' (ih t'.length (by simp at hn; omega) t' rfl)
      · exact h3 c t hc (ih t.length (by simp at hn; omega) t rfl)

theorem piecesOf_length_le (l : List UInt8) : ∀ i, (piecesOf l i).length ≤ l.length := by
  induction l using text_induct with
  | h0 => intro i; simp [piecesOf]
  | h1 => intro i; simp [piecesOf_last]
  | h2 d t ih => intro i; rw [piecesOf_esc]; have := ih (i + 2); simp; omega
  | h3 c t hc ih => intro i; rw [piecesOf_ne hc]; have := ih (i + 1); simp; omega

/-- where the set ends, the rest being the pieces from place k on -/
def endAt : List Piece → Nat → Int
  | [], _ => -1
  | p :: t, k => if p.isB 93 then k else endAt t (k + 1)

def escB (c : UInt8) : Bool := c == 42 || c == 63 || c == 91 || c == 93 || c == 92 || blankB c
def escapeL (l : List UInt8) : List UInt8 := l.flatMap fun c => if escB c then [92, c] else [c]
def plainL (l : List UInt8) : List UInt8 := (piecesOf l 0).map (·.c)

/-- is a byte one of these, or of their ranges -/
def amongF : Nat → List Piece → UInt8 → Bool
  | 0, _, _ => false
  | _ + 1, [], _ => false
  | f + 1, p :: t, c =>
    match t with
    | q :: r :: t' => if q.isB 45 then (if p.c ≤ c ∧ c ≤ r.c then true else amongF f t' c) else (if p.c = c then true else amongF f t c)
    | _ => if p.c = c then true else amongF f t c
def amongL (l : List Piece) (c : UInt8) : Bool := amongF l.length l c

theorem amongF_fuel : ∀ (f g : Nat) (l : List Piece) (c : UInt8), l.length ≤ f → l.length ≤ g → amongF f l c = amongF g l c
  | 0, 0, _, _, _, _ => rfl
  | 0, g + 1, l, c, h, _ => by
    have : l = [] := List.eq_nil_of_length_eq_zero (by omega)
    subst this; rfl
  | f + 1, 0, l, c, _, h => by
    have : l = [] := List.eq_nil_of_length_eq_zero (by omega)
    subst this; rfl
  | f + 1, g + 1, [], c, _, _ => rfl
  | f + 1, g + 1, [p], c, _, _ => by simp only [amongF]; rw [amongF_fuel f g [] c (by simp) (by simp)]
  | f + 1, g + 1, [p, q], c, hf, hg => by
    simp only [amongF]; rw [amongF_fuel f g [q] c (by simp at hf ⊢; omega) (by simp at hg ⊢; omega)]
  | f + 1, g + 1, p :: q :: r :: t, c, hf, hg => by
    simp only [amongF]
    rw [amongF_fuel f g t c (by simp at hf; omega) (by simp at hg; omega), amongF_fuel f g (q :: r :: t) c (by simp at hf ⊢; omega) (by simp at hg ⊢; omega)]

theorem amongL_nil (c : UInt8) : amongL [] c = false := rfl
theorem amongL_range {p q r : Piece} {t : List Piece} {c : UInt8} (h : q.isB 45 = true) : amongL (p :: q :: r :: t) c = if p.c ≤ c ∧ c ≤ r.c then true else amongL t c := by
  unfold amongL
  simp only [List.length_cons, amongF, h, if_true]
  rw [amongF_fuel (t.length + 1 + 1) t.length t c (by omega) (by omega)]
theorem amongL_plain {p : Piece} {t : List Piece} {c : UInt8} (h : ∀ q r t', t = q :: r :: t' → q.isB 45 = false) : amongL (p :: t) c = if p.c = c then true else amongL t c := by
  unfold amongL
  match t with
  | [] => rfl
  | [q] => simp only [List.length_cons, amongF]
  | q :: r :: t' =>
    have := h q r t' rfl
    simp only [List.length_cons, amongF, this]
    simp

def inL (l : List Piece) (c : UInt8) : Bool :=
  match l with
  | p :: q :: t => if p.isB 94 then !amongL (q :: t) c else amongL l c
  | _ => amongL l c

/-- the parts of a pattern -/
inductive Tok where
  | star
  | any
  | set (l : List Piece)
  | one (c : UInt8)

def Tok.ok : Tok → UInt8 → Bool
  | .star, _ => false
  | .any, _ => true
  | .set l, c => inL l c
  | .one d, c => d == c

/-- how many pieces behind the bracket lie ahead of the bracket's end, if it has one -/
def setEnd (t : List Piece) : Option Nat := ((t.drop 1).findIdx? (·.isB 93)).map (· + 1)

def tokF : Nat → List Piece → List Tok
  | 0, _ => []
  | _ + 1, [] => []
  | f + 1, p :: t =>
    if p.isB 42 then .star :: tokF f t
    else if p.isB 63 then .any :: tokF f t
    else if p.isB 91 then
      match setEnd t with
      | some j => .set (t.take j) :: tokF f (t.drop (j + 1))
      | none => .one p.c :: tokF f t
    else .one p.c :: tokF f t
def toks (l : List Piece) : List Tok := tokF l.length l

theorem tokF_fuel : ∀ (f g : Nat) (l : List Piece), l.length ≤ f → l.length ≤ g → tokF f l = tokF g l
  | 0, 0, _, _, _ => rfl
  | 0, g + 1, l, h, _ => by
    have : l = [] := List.eq_nil_of_length_eq_zero (by omega)
    subst this; rfl
  | f + 1, 0, l, _, h => by
    have : l = [] := List.eq_nil_of_length_eq_zero (by omega)
    subst this; rfl
  | f + 1, g + 1, [], _, _ => rfl
  | f + 1, g + 1, p :: t, hf, hg => by
    simp only [List.length_cons] at hf hg
    simp only [tokF]
    rw [tokF_fuel f g t (by omega) (by omega)]
    cases setEnd t with
    | none => rfl
    | some j => simp only []; rw [tokF_fuel f g (t.drop (j + 1)) (by simp; omega) (by simp; omega)]

theorem toks_nil : toks [] = [] := rfl
theorem toks_star {p : Piece} {t : List Piece} (h : p.isB 42 = true) : toks (p :: t) = .star :: toks t := by
  simp only [toks, List.length_cons, tokF, h, if_true]
theorem toks_any {p : Piece} {t : List Piece} (h0 : p.isB 42 = false) (h : p.isB 63 = true) : toks (p :: t) = .any :: toks t := by
  simp only [toks, List.length_cons, tokF, h0, h, if_true]; simp
theorem toks_set {p : Piece} {t : List Piece} {j : Nat} (h0 : p.isB 42 = false) (h1 : p.isB 63 = false) (h : p.isB 91 = true) (hj : setEnd t = some j) : toks (p :: t) = .set (t.take j) :: toks (t.drop (j + 1)) := by
  simp only [toks, List.length_cons, tokF, h0, h1, h, hj, if_true]
  simp only [Bool.false_eq_true, if_false]
  rw [tokF_fuel t.length (t.drop (j + 1)).length _ (by simp) (Nat.le_refl _)]
theorem toks_one {p : Piece} {t : List Piece} (h0 : p.isB 42 = false) (h1 : p.isB 63 = false) (h : p.isB 91 = true → setEnd t = none) : toks (p :: t) = .one p.c :: toks t := by
  simp only [toks, List.length_cons, tokF, h0, h1]
  cases hb : p.isB 91 with
  | false => simp
  | true => simp [h hb]

/-- one step of the places that may be reached -/
def stepT (s : List UInt8) (at_ : List Bool) : Tok → List Bool
  | .star => (List.range at_.length).map fun k => (at_.take (k + 1)).any id
  | t => (List.range at_.length).map fun k => match k with
    | 0 => false
    | j + 1 => at_.getD j false && t.ok (s.getD j 0)
def runT (s : List UInt8) (l : List Tok) (at_ : List Bool) : List Bool := l.foldl (stepT s) at_
def matchL (p s : List UInt8) : Bool := (runT s (toks (piecesOf p 0)) (true :: List.replicate s.length false)).getD s.length false

/-- is a pattern byte in it -/
def liveP : List Piece → Bool
  | [] => false
  | p :: t => p.isB 42 || p.isB 63 || (p.isB 91 && (setEnd t).isSome) || liveP t
def liveL (l : List UInt8) : Bool := liveP (piecesOf l 0)

/-- the parts between living blanks: from where the part begins, what is cut -/
def splitP (s : List UInt8) : List Piece → Nat → List (List UInt8)
  | [], frm => if frm < s.length then [s.drop frm] else []
  | p :: t, frm =>
    if p.blankB then (if frm < p.frm then [(s.take p.frm).drop frm] else []) ++ splitP s t (p.frm + 1)
    else splitP s t frm
def splitL (s : List UInt8) : List (List UInt8) := splitP s (piecesOf s 0) 0
end Go.Proofs.YtlhpflilpdceiaaGreatDoor

/- Lists of texts as chapter 3 has them, with no program in sight. No condition. -/
set_option linter.unusedVariables false
set_option linter.unusedSimpArgs false
namespace Go.Proofs.YtlhpflilpdceiaaGreatDoor

def longT (s : List UInt8) : Bool := decide (2000 < s.length)
def bigL (l : List (List UInt8)) : Bool := decide (100 < l.length) || l.any longT
def boundL (l : List (List UInt8)) : Option (List (List UInt8)) := if bigL l then none else some l
/-- What becomes of each item, one behind the other; too many: none. -/
def eachGo (f : List UInt8 → List (List UInt8)) : List (List UInt8) → List (List UInt8) → Option (List (List UInt8))
  | [], acc => boundL acc
  | s :: t, acc => if 100 < (acc ++ f s).length then none else eachGo f t (acc ++ f s)
def eachL (f : List UInt8 → List (List UInt8)) (l : List (List UInt8)) : Option (List (List UInt8)) := eachGo f l []
def catGo : List (List (List UInt8)) → List (List UInt8) → Option (List (List UInt8))
  | [], acc => boundL acc
  | x :: t, acc => if 100 < (acc ++ x).length then none else catGo t (acc ++ x)
def catL (l : List (List (List UInt8))) : Option (List (List UInt8)) := catGo l []
def someL (l : List (List UInt8)) : List (List UInt8) := if l.length = 0 then [[]] else l
def lenT (a b : Nat) : Nat := if a = 1 ∨ b = 1 then max a b else min a b
/-- The item that stands for place i. -/
def atI (a : List (List UInt8)) (i : Nat) : List UInt8 := a.getD (min i (a.length - 1)) []
def pairsL (a b : List (List UInt8)) : List (List UInt8) := (List.range (lenT a.length b.length)).map fun i => atI a i ++ atI b i
def twoL (a b : List (List UInt8)) : Option (List (List UInt8)) := if 100 < lenT (someL a).length (someL b).length then none else boundL (pairsL (someL a) (someL b))
def joinGo : List (List (List UInt8)) → List (List UInt8) → Option (List (List UInt8))
  | [], acc => boundL acc
  | x :: t, acc => match twoL acc x with
    | none => none
    | some r => joinGo t r
def joinL : List (List (List UInt8)) → Option (List (List UInt8))
  | [] => some [[]]
  | x :: t => joinGo t (someL x)
/-- How many bytes there are. -/
def sumL : List (List UInt8) → Nat
  | [] => 0
  | s :: t => s.length + sumL t
def spaced : List (List UInt8) → List UInt8
  | [] => []
  | [s] => s
  | s :: u :: t => s ++ 32 :: spaced (u :: t)
def flatTx (l : List (List UInt8)) : Option (List (List UInt8)) := if 2000 < l.length - 1 + sumL l then none else some [spaced l]

theorem longT_iff (s : List UInt8) : longT s = true ↔ 2000 < s.length := by simp [longT]
theorem bigL_false {l : List (List UInt8)} : bigL l = false ↔ l.length ≤ 100 ∧ ∀ s ∈ l, s.length ≤ 2000 := by
  rw [bigL, Bool.or_eq_false_iff, decide_eq_false_iff_not, Nat.not_lt, List.any_eq_false]
  refine and_congr Iff.rfl ⟨fun h s hs => ?_, fun h s hs => ?_⟩
  · have := h s hs
    rw [longT_iff] at this
    omega
  · rw [longT_iff]
    have := h s hs
    omega
theorem bound_some {l r : List (List UInt8)} (h : boundL l = some r) : l = r ∧ bigL r = false := by
  unfold boundL at h
  split at h
  · cases h
  · rename_i hb
    injection h with h
    subst h
    exact ⟨rfl, by simpa using hb⟩
theorem bound_of {l : List (List UInt8)} (h : bigL l = false) : boundL l = some l := by unfold boundL; rw [h]; rfl
theorem spaced_len : ∀ l : List (List UInt8), (spaced l).length = l.length - 1 + sumL l
  | [] => rfl
  | [s] => by simp [spaced, sumL]
  | s :: u :: t => by
    have h := spaced_len (u :: t)
    rw [spaced, List.length_append, List.length_cons, h]
    simp only [sumL, List.length_cons]
    omega

/- sums -/
theorem cat_ok : ∀ (l : List (List (List UInt8))) (acc : List (List UInt8)), acc.length + l.flatten.length ≤ 100 → (∀ s ∈ acc, s.length ≤ 2000) → (∀ x ∈ l, ∀ s ∈ x, s.length ≤ 2000) → catGo l acc = some (acc ++ l.flatten)
  | [], acc, h, h1, h2 => by
    rw [catGo, bound_of (bigL_false.2 ⟨by simpa using h, h1⟩)]; simp
  | x :: t, acc, h, h1, h2 => by
    rw [List.flatten_cons, List.length_append] at h
    rw [catGo, if_neg (by rw [List.length_append]; omega), cat_ok t (acc ++ x) (by rw [List.length_append]; omega) ?_ (fun y hy => h2 y (List.mem_cons_of_mem _ hy)), List.flatten_cons, List.append_assoc]
    intro s hs
    rcases List.mem_append.1 hs with hs | hs
    · exact h1 s hs
    · exact h2 x (List.mem_cons_self ..) s hs
theorem cat_some : ∀ (l : List (List (List UInt8))) (acc r : List (List UInt8)), catGo l acc = some r → r = acc ++ l.flatten ∧ bigL r = false
  | [], acc, r, h => by
    rw [catGo] at h
    obtain ⟨rfl, hb⟩ := bound_some h
    exact ⟨by simp, hb⟩
  | x :: t, acc, r, h => by
    rw [catGo] at h
    split at h
    · cases h
    · obtain ⟨rfl, hb⟩ := cat_some t _ _ h
      exact ⟨by rw [List.flatten_cons, List.append_assoc], hb⟩

/- joins -/
theorem someL_pos (l : List (List UInt8)) : 0 < (someL l).length := by
  unfold someL; split
  · simp
  · omega
theorem someL_id {l : List (List UInt8)} (h : 0 < l.length) : someL l = l := by unfold someL; rw [if_neg (by omega)]
theorem someL_some (l : List (List UInt8)) : someL (someL l) = someL l := someL_id (someL_pos l)
theorem lenT_pos {a b : Nat} (ha : 0 < a) (hb : 0 < b) : 0 < lenT a b := by unfold lenT; split <;> omega
theorem pairsL_len (a b : List (List UInt8)) : (pairsL a b).length = lenT a.length b.length := by simp [pairsL]
theorem lenT_assoc {a b c : Nat} (ha : 0 < a) (hb : 0 < b) (hc : 0 < c) : lenT (lenT a b) c = lenT a (lenT b c) := by
  unfold lenT
  repeat' split
  all_goals omega
theorem pairsL_at (a b : List (List UInt8)) (i : Nat) (ha : 0 < a.length) (hb : 0 < b.length) (h : i < lenT a.length b.length ∨ lenT a.length b.length = 1) : atI (pairsL a b) i = atI a i ++ atI b i := by
  rcases h with h | h
  · rw [atI, pairsL_len, Nat.min_eq_left (by omega), pairsL, List.getD_eq_getElem?_getD, List.getElem?_map, List.getElem?_range h]
    rfl
  · have h1 : a.length = 1 ∧ b.length = 1 := by
      unfold lenT at h
      split at h <;> omega
    rw [atI, pairsL_len, h, Nat.sub_self, Nat.min_zero, pairsL, List.getD_eq_getElem?_getD, List.getElem?_map, List.getElem?_range (by omega)]
    simp [atI, h1.1, h1.2]
theorem pairsL_assoc (a b c : List (List UInt8)) (ha : 0 < a.length) (hb : 0 < b.length) (hc : 0 < c.length) : pairsL (pairsL a b) c = pairsL a (pairsL b c) := by
  have hab := lenT_pos ha hb
  have hbc := lenT_pos hb hc
  have hl : lenT (pairsL a b).length c.length = lenT a.length (pairsL b c).length := by rw [pairsL_len, pairsL_len, lenT_assoc ha hb hc]
  conv => lhs; unfold pairsL
  conv => rhs; unfold pairsL
  rw [show lenT (List.map (fun i => atI a i ++ atI b i) (List.range (lenT a.length b.length))).length c.length = lenT a.length (List.map (fun i => atI b i ++ atI c i) (List.range (lenT b.length c.length))).length from hl]
  refine List.map_congr_left fun i hi => ?_
  rw [List.mem_range] at hi
  have h1 : i < lenT (lenT a.length b.length) c.length := by rw [lenT_assoc ha hb hc]; simpa using hi
  have h2 : i < lenT a.length (lenT b.length c.length) := by simpa using hi
  show atI (pairsL a b) i ++ atI c i = atI a i ++ atI (pairsL b c) i
  rw [pairsL_at a b i ha hb ?_, pairsL_at b c i hb hc ?_, List.append_assoc]
  · generalize lenT b.length c.length = n at *
    unfold lenT at h2
    split at h2 <;> omega
  · generalize lenT a.length b.length = n at *
    unfold lenT at h1
    split at h1 <;> omega
theorem two_some {a b r : List (List UInt8)} (h : twoL a b = some r) : r = pairsL (someL a) (someL b) ∧ bigL r = false := by
  unfold twoL at h
  split at h
  · cases h
  · obtain ⟨rfl, hb⟩ := bound_some h
    exact ⟨rfl, hb⟩
theorem join2 {a b r : List (List UInt8)} (h : joinL [a, b] = some r) : twoL (someL a) b = some r ∧ r = pairsL (someL a) (someL b) ∧ bigL r = false := by
  rw [joinL, joinGo] at h
  split at h
  · cases h
  · rename_i q hq
    rw [joinGo] at h
    obtain ⟨rfl, hb⟩ := bound_some h
    refine ⟨hq, ?_, hb⟩
    have := (two_some hq).1
    rwa [someL_some] at this
/-- Joined in any groups it is the same. -/
theorem join_group {a b c ab bc x y : List (List UInt8)} (h1 : joinL [a, b] = some ab) (h2 : joinL [b, c] = some bc) (h3 : joinL [ab, c] = some x) (h4 : joinL [a, bc] = some y) : joinL [a, b, c] = some x ∧ y = x := by
  obtain ⟨e1, rfl, b1⟩ := join2 h1
  obtain ⟨e2, rfl, b2⟩ := join2 h2
  obtain ⟨e3, r3, b3⟩ := join2 h3
  obtain ⟨e4, r4, b4⟩ := join2 h4
  have pa := someL_pos a
  have pb := someL_pos b
  have pc := someL_pos c
  have hab : someL (pairsL (someL a) (someL b)) = pairsL (someL a) (someL b) := someL_id (by rw [pairsL_len]; exact lenT_pos pa pb)
  have hbc : someL (pairsL (someL b) (someL c)) = pairsL (someL b) (someL c) := someL_id (by rw [pairsL_len]; exact lenT_pos pb pc)
  rw [hab] at e3 r3
  rw [hbc] at r4
  refine ⟨?_, by rw [r3, r4, pairsL_assoc _ _ _ pa pb pc]⟩
  rw [joinL, joinGo, e1]
  show joinGo [c] _ = _
  rw [joinGo, e3]
  show joinGo [] x = _
  rw [joinGo, bound_of b3]

/- each -/
theorem each_some (f : List UInt8 → List (List UInt8)) : ∀ (l acc r : List (List UInt8)), eachGo f l acc = some r → r = acc ++ l.flatMap f ∧ bigL r = false
  | [], acc, r, h => by
    rw [eachGo] at h
    obtain ⟨rfl, hb⟩ := bound_some h
    exact ⟨by simp, hb⟩
  | x :: t, acc, r, h => by
    rw [eachGo] at h
    split at h
    · cases h
    · obtain ⟨rfl, hb⟩ := each_some f t _ _ h
      exact ⟨by rw [List.flatMap_cons, List.append_assoc], hb⟩
theorem each_ok (f : List UInt8 → List (List UInt8)) : ∀ (l acc : List (List UInt8)), bigL (acc ++ l.flatMap f) = false → eachGo f l acc = some (acc ++ l.flatMap f)
  | [], acc, h => by
    rw [eachGo, bound_of (by simpa using h)]; simp
  | x :: t, acc, h => by
    rw [List.flatMap_cons, ← List.append_assoc] at h
    have h1 := (bigL_false.1 h).1
    rw [List.length_append] at h1
    rw [eachGo, if_neg (by omega), each_ok f t _ h, List.flatMap_cons, List.append_assoc]
end Go.Proofs.YtlhpflilpdceiaaGreatDoor
