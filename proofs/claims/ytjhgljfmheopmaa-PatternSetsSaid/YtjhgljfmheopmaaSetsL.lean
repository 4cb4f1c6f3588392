/- The plain law of PatternSets: what a set of two bytes, or a range, matches. No program in sight. -/
import Derived.Test.YtjhgljfmheopmaaPatL
set_option linter.unusedVariables false
set_option linter.unusedSimpArgs false
namespace Go.Proofs.Ytjhgljfmheopmaa

theorem setEnd_close (X : List Piece) (k : Nat) (hX : X ≠ []) (h : ∀ x ∈ X, x.isB 93 = false) : setEnd (X ++ [⟨93, false, k⟩]) = some X.length := by
  cases X with
  | nil => exact absurd rfl hX
  | cons x X =>
    have : (X ++ [(⟨93, false, k⟩ : Piece)]).findIdx? (·.isB 93) = some X.length := by
      rw [List.findIdx?_append, List.findIdx?_eq_none_iff.2 (fun y hy => h y (by simp [hy]))]
      simp [Piece.isB]
    simp only [setEnd, List.cons_append, List.drop_succ_cons, List.drop_zero, this]
    simp

theorem set_match {p : List UInt8} {X : List Piece} {i k : Nat} (hp : piecesOf p 0 = ⟨91, false, i⟩ :: (X ++ [⟨93, false, k⟩])) (hX : X ≠ []) (h : ∀ x ∈ X, x.isB 93 = false) :
    (∀ c, matchL p [c] = inL X c) ∧ matchL p [] = false ∧ ∀ c d, matchL p [c, d] = false := by
  have ht : toks (piecesOf p 0) = [.set X] := by
    rw [hp, toks_set rfl rfl rfl (setEnd_close X k hX h)]
    rw [List.take_left]
    rw [show (X ++ [(⟨93, false, k⟩ : Piece)]).drop (X.length + 1) = [] by simp]
    rfl
  refine ⟨fun c => ?_, ?_, fun c d => ?_⟩
  · rw [Bool.eq_iff_iff, matchL_iff, ht]; simp [Mt]
  · rw [Bool.eq_false_iff, ne_eq, matchL_iff, ht]; simp [Mt]
  · rw [Bool.eq_false_iff, ne_eq, matchL_iff, ht]; simp [Mt]

/-- the piece of an escaped byte -/
def escP (a : UInt8) (i : Nat) : Piece := ⟨a, escB a, i⟩
def escT (a : UInt8) : List UInt8 := if escB a then [92, a] else [a]
theorem escT_eq (a : UInt8) : escapeL [a] = escT a := by simp [escapeL, escT]
theorem pieces_escT (a : UInt8) (t : List UInt8) (i : Nat) : piecesOf (escT a ++ t) i = escP a i :: piecesOf t (i + (escT a).length) := by
  cases h : escB a with
  | true => simp [escT, escP, h, piecesOf_esc]
  | false => simp [escT, escP, h, piecesOf_ne (esc_ne h)]
theorem escP_inert (a : UInt8) (i : Nat) : (escP a i).inert := by
  cases h : escB a with
  | true => exact .inl h
  | false => exact .inr h
theorem escP_93 (a : UInt8) (i : Nat) : (escP a i).isB 93 = false := isB_inert (escP_inert a i) (d := 93) (by decide)
theorem escP_ne {a d : UInt8} (h : a ≠ d) (i : Nat) : (escP a i).isB d.toNat = false := by
  have hn : ((a.toNat : Int) == (d.toNat : Int)) = false := by
    rw [beq_eq_false_iff_ne]; intro e; exact h (UInt8.toNat_inj.1 (by omega))
  simp [Piece.isB, escP, hn]

def setT (turned : Bool) (a b : UInt8) : List UInt8 := (if turned then [91, 94] else [91]) ++ (escT a ++ ([45] ++ (escT b ++ [93])))
def twoT (turned : Bool) (a b : UInt8) : List UInt8 := (if turned then [91, 94] else [91]) ++ (escT a ++ (escT b ++ [93]))

theorem u8_le_dec (a b c : UInt8) : (decide (a ≤ c) && decide (c ≤ b)) = decide (a ≤ c ∧ c ≤ b) := by
  rw [Bool.eq_iff_iff]; simp

theorem inL_two (p q : Piece) (t : List Piece) (c : UInt8) (h : p.isB 94 = false) : inL (p :: q :: t) c = amongL (p :: q :: t) c := by simp [inL, h]
theorem inL_turn (p q : Piece) (t : List Piece) (c : UInt8) (h : p.isB 94 = true) : inL (p :: q :: t) c = !amongL (q :: t) c := by simp [inL, h]

theorem among_set (a b c : UInt8) (i j k : Nat) : amongL [escP a i, ⟨45, false, j⟩, escP b k] c = (decide (a ≤ c) && decide (c ≤ b)) := by
  rw [amongL_range rfl, amongL_nil, u8_le_dec]
  show (if a ≤ c ∧ c ≤ b then true else false) = _
  split <;> simp_all
theorem among_two (a b c : UInt8) (i k : Nat) : amongL [escP a i, escP b k] c = (decide (a = c) || decide (b = c)) := by
  rw [amongL_plain (by intro q r t' h; simp at h), amongL_plain (by intro q r t' h; cases h), amongL_nil]
  show (if a = c then true else if b = c then true else false) = _
  by_cases h1 : a = c <;> by_cases h2 : b = c <;> simp [h1, h2]

theorem set_law (turned : Bool) (a b : UInt8) (ha : a ≠ 94) (ha2 : a ≠ 45) (hb : b ≠ 45) (hb2 : b ≠ 94) :
    (∀ c, matchL (setT turned a b) [c] = ((decide (a ≤ c) && decide (c ≤ b)) != turned)) ∧ matchL (setT turned a b) [] = false ∧
    (∀ c, matchL (twoT turned a b) [c] = ((decide (a = c) || decide (b = c)) != turned)) ∧ ∀ c d, matchL (twoT turned a b) [c, d] = false := by
  have p45 : ∀ (t : List UInt8) (i : Nat), piecesOf ([45] ++ t) i = ⟨45, false, i⟩ :: piecesOf t (i + 1) := fun t i => piecesOf_ne (by decide) t i
  have p93 : ∀ i, piecesOf [93] i = [⟨93, false, i⟩] := fun i => piecesOf_ne (by decide) [] i
  cases turned with
  | false =>
    obtain ⟨j, k, m, h1⟩ : ∃ j k m, piecesOf (setT false a b) 0 = ⟨91, false, 0⟩ :: ([escP a (0 + 1), ⟨45, false, j⟩, escP b k] ++ [⟨93, false, m⟩]) := ⟨_, _, _, by
      show piecesOf (91 :: (escT a ++ ([45] ++ (escT b ++ [93])))) 0 = _
      rw [piecesOf_ne (by decide), pieces_escT, p45, pieces_escT, p93]; rfl⟩
    obtain ⟨k2, m2, h2⟩ : ∃ k m, piecesOf (twoT false a b) 0 = ⟨91, false, 0⟩ :: ([escP a (0 + 1), escP b k] ++ [⟨93, false, m⟩]) := ⟨_, _, by
      show piecesOf (91 :: (escT a ++ (escT b ++ [93]))) 0 = _
      rw [piecesOf_ne (by decide), pieces_escT, pieces_escT, p93]; rfl⟩
    obtain ⟨s1, s2, s3⟩ := set_match h1 (by simp) (by intro x hx; simp at hx; rcases hx with rfl | rfl | rfl <;> first | exact escP_93 _ _ | rfl)
    obtain ⟨t1, t2, t3⟩ := set_match h2 (by simp) (by intro x hx; simp at hx; rcases hx with rfl | rfl <;> exact escP_93 _ _)
    refine ⟨fun c => ?_, s2, fun c => ?_, t3⟩
    · rw [s1, inL_two _ _ _ _ (escP_ne (d := 94) ha _), among_set]; simp
    · rw [t1, inL_two _ _ _ _ (escP_ne (d := 94) ha _), among_two]; simp
  | true =>
    obtain ⟨j, k, m, h1⟩ : ∃ j k m, piecesOf (setT true a b) 0 = ⟨91, false, 0⟩ :: ([⟨94, false, 0 + 1⟩, escP a (0 + 1 + 1), ⟨45, false, j⟩, escP b k] ++ [⟨93, false, m⟩]) := ⟨_, _, _, by
      show piecesOf (91 :: 94 :: (escT a ++ ([45] ++ (escT b ++ [93])))) 0 = _
      rw [piecesOf_ne (by decide), piecesOf_ne (by decide), pieces_escT, p45, pieces_escT, p93]; rfl⟩
    obtain ⟨k2, m2, h2⟩ : ∃ k m, piecesOf (twoT true a b) 0 = ⟨91, false, 0⟩ :: ([⟨94, false, 0 + 1⟩, escP a (0 + 1 + 1), escP b k] ++ [⟨93, false, m⟩]) := ⟨_, _, by
      show piecesOf (91 :: 94 :: (escT a ++ (escT b ++ [93]))) 0 = _
      rw [piecesOf_ne (by decide), piecesOf_ne (by decide), pieces_escT, pieces_escT, p93]; rfl⟩
    obtain ⟨s1, s2, s3⟩ := set_match h1 (by simp) (by intro x hx; simp at hx; rcases hx with rfl | rfl | rfl | rfl <;> first | exact escP_93 _ _ | rfl)
    obtain ⟨t1, t2, t3⟩ := set_match h2 (by simp) (by intro x hx; simp at hx; rcases hx with rfl | rfl | rfl <;> first | exact escP_93 _ _ | rfl)
    refine ⟨fun c => ?_, s2, fun c => ?_, t3⟩
    · rw [s1, inL_turn _ _ _ _ rfl, among_set]; simp
    · rw [t1, inL_turn _ _ _ _ rfl, among_two]; simp
end Go.Proofs.Ytjhgljfmheopmaa
