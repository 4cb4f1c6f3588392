/- Words of dialect C, said by places in the whole source: parts, words, commands. No program in sight. -/
import Derived.Test.YtlhpflilpdceiaaDoorScanA
set_option linter.unusedVariables false
set_option linter.unusedSimpArgs false
namespace Go.Proofs.YtlhpflilpdceiaaDoor

def partsA (L : List UInt8) (e : UInt8 → Bool) (i : Nat) (acc : List CPart) : PsR := partsL e i (L.drop i) acc
theorem partsA_end {L : List UInt8} (e : UInt8 → Bool) {i : Nat} (acc : List CPart) (h : L.length ≤ i) : partsA L e i acc = .ok acc i (L.drop i) := by
  unfold partsA
  rw [List.drop_eq_nil_of_le h, partsL_nil]
theorem partsA_stop {L : List UInt8} {e : UInt8 → Bool} {i : Nat} (acc : List CPart) (h : i < L.length) (he : e L[i] = true) : partsA L e i acc = .ok acc i (L.drop i) := by
  unfold partsA
  rw [List.drop_eq_getElem_cons h, partsL_cons, if_pos he]
def partA (L : List UInt8) (i : Nat) : PartR := match L.drop i with
  | [] => .err 0 0
  | c :: t => partL i c t
theorem partA_eq {L : List UInt8} {i : Nat} (h : i < L.length) : partA L i = partL i L[i] (L.drop (i + 1)) := by
  unfold partA
  rw [List.drop_eq_getElem_cons h]
theorem partsA_err {L : List UInt8} {e : UInt8 → Bool} {i : Nat} (acc : List CPart) {k a : Nat} (h : i < L.length) (he : e L[i] = false) (hp : partA L i = .err k a) : partsA L e i acc = .err k a := by
  rw [partA_eq h] at hp
  unfold partsA
  rw [List.drop_eq_getElem_cons h, partsL_cons, if_neg (by rw [he]; decide), hp]
theorem partsA_on {L : List UInt8} {e : UInt8 → Bool} {i : Nat} (acc : List CPart) {p : CPart} {n : Nat} (h : i < L.length) (he : e L[i] = false) (hp : partA L i = .ok p n) : partsA L e i acc = partsA L e (i + n) (mergeP acc p) := by
  rw [partA_eq h] at hp
  unfold partsA
  rw [List.drop_eq_getElem_cons h, partsL_cons, if_neg (by rw [he]; decide), hp]
  simp only
  rw [← List.drop_eq_getElem_cons h, List.drop_drop]
theorem partA_ok {L : List UInt8} {i : Nat} {p : CPart} {n : Nat} (h : i < L.length) (hp : partA L i = .ok p n) : 1 ≤ n ∧ i + n ≤ L.length ∧ p.pos = i ∧ p.s.length ≤ n ∧ p.kind ≤ 4 ∧ p.n ≤ 9 ∧ (p.kind = 1 → p.n = 0) := by
  rw [partA_eq h] at hp
  have h1 := part_small hp
  have h2 := partL_pos hp
  have h3 := part_le hp
  rw [List.length_drop] at h3
  exact ⟨h2, by omega, h1⟩
/-- What stands between two places. -/
def cutL (L : List UInt8) (i j : Nat) : List UInt8 := (L.drop i).take (j - i)
theorem partA_esc {L : List UInt8} {i : Nat} (h : i < L.length) (hc : L[i] = 92) : partA L i = if h2 : i + 1 < L.length then .ok ⟨1, i, 0, [escT L[i + 1]]⟩ 2 else .ok ⟨1, i, 0, [92]⟩ 1 := by
  rw [partA_eq h, hc]
  unfold partL
  rw [if_pos rfl]
  split
  · rename_i ht
    rw [dif_neg (by have := congrArg List.length ht; simp at this; omega)]
  · rename_i d t ht
    have h2 : i + 1 < L.length := by have := congrArg List.length ht; simp at this; omega
    rw [List.drop_eq_getElem_cons h2] at ht
    injection ht with h3 _
    rw [dif_pos h2, h3]
theorem partA_dollar {L : List UInt8} {i : Nat} (h : i < L.length) (hc : L[i] = 36) : partA L i = dollarL i (L.drop (i + 1)) := by
  rw [partA_eq h, hc]
  unfold partL
  rw [if_neg (by decide), if_pos rfl]
theorem partA_sub {L : List UInt8} {i : Nat} (h : i < L.length) (hc : L[i] = 91) : partA L i = match bracketA L (i + 1) 0 with
    | none => .err 4 i
    | some k => .ok ⟨3, i, 0, cutL L (i + 1) k⟩ (k + 1 - i) := by
  rw [partA_eq h, hc]
  unfold partL bracketA
  rw [if_neg (by decide), if_neg (by decide), if_pos rfl]
  cases hb : bracketL 0 (L.drop (i + 1)) with
  | none => rfl
  | some k =>
    simp only [Option.map_some, cutL, PartR.ok.injEq]
    rw [show k + (i + 1) - (i + 1) = k by omega]
    exact ⟨rfl, by omega⟩
theorem partA_one {L : List UInt8} {i : Nat} (h : i < L.length) (h1 : L[i] ≠ 92) (h2 : L[i] ≠ 36) (h3 : L[i] ≠ 91) : partA L i = .ok ⟨1, i, 0, [L[i]]⟩ 1 := by
  rw [partA_eq h]
  unfold partL
  rw [if_neg h1, if_neg h2, if_neg h3]
/- words -/
def endsA (L : List UInt8) (j : Nat) : Bool := ended (L.drop j)
theorem endsA_end {L : List UInt8} {j : Nat} (h : L.length ≤ j) : endsA L j = true := by
  unfold endsA
  rw [List.drop_eq_nil_of_le h]
  rfl
theorem endsA_at {L : List UInt8} {j : Nat} (h : j < L.length) : endsA L j = endB L[j] := by
  unfold endsA
  rw [List.drop_eq_getElem_cons h]
  rfl
def wordA (L : List UInt8) (i : Nat) : WdR := wordL i (L.drop i)
theorem wordA_plain {L : List UInt8} {i : Nat} (h : ∀ hi : i < L.length, L[i] ≠ 123 ∧ L[i] ≠ 34) : wordA L i = match partsA L endB i [] with
    | .err k a => .err k a
    | .ok ps j r => .ok ⟨i, false, ps⟩ j r := by
  unfold wordA partsA
  cases hd : L.drop i with
  | nil => rfl
  | cons c t =>
    have hi : i < L.length := by have := congrArg List.length hd; simp at this; omega
    rw [List.drop_eq_getElem_cons hi] at hd
    injection hd with h1 h2
    subst h1
    rw [wordL, if_neg (h hi).1, if_neg (h hi).2]
    rfl
theorem wordA_brace {L : List UInt8} {i : Nat} (h : i < L.length) (hc : L[i] = 123) : wordA L i = match braceA L (i + 1) 0 with
    | none => .err 5 i
    | some k => if endsA L (k + 1) = true then .ok ⟨i, true, [⟨1, i + 1, 0, cutL L (i + 1) k⟩]⟩ (k + 1) (L.drop (k + 1)) else .err 7 (k + 1) := by
  unfold wordA
  rw [List.drop_eq_getElem_cons h, hc, wordL, if_pos rfl]
  unfold bracedW braceA
  cases hb : braceL 0 (L.drop (i + 1)) with
  | none => rfl
  | some k =>
    simp only [Option.map_some]
    unfold tailW endsA cutL
    rw [List.drop_drop, show i + 1 + (k + 1) = k + (i + 1) + 1 by omega, show k + (i + 1) - (i + 1) = k by omega, show i + 1 + k + 1 = k + (i + 1) + 1 by omega]
theorem wordA_quote {L : List UInt8} {i : Nat} (h : i < L.length) (hc : L[i] = 34) : wordA L i = match partsA L quoB (i + 1) [] with
    | .err k a => .err k a
    | .ok ps j _ => if L.length ≤ j then .err 3 i else if endsA L (j + 1) = true then .ok ⟨i, false, if ps.length = 0 then [⟨1, i, 0, []⟩] else ps⟩ (j + 1) (L.drop (j + 1)) else .err 7 (j + 1) := by
  unfold wordA
  rw [List.drop_eq_getElem_cons h, hc, wordL, if_neg (by decide), if_pos rfl]
  unfold quotedW partsA
  cases hb : partsL quoB (i + 1) (L.drop (i + 1)) [] with
  | err k a => rfl
  | ok ps j r =>
    simp only
    obtain ⟨_, h1, h2, h3⟩ := parts_small quoB _ _ _ _ _ _ _ (Nat.le_refl _) ⟨Nat.zero_le _, fun p hp => by cases hp⟩ hb
    have hr : r = L.drop j := by rw [h3, List.drop_drop, show i + 1 + (j - (i + 1)) = j by omega]
    have hrl : r.length = 0 ↔ L.length ≤ j := by rw [hr, List.length_drop]; omega
    by_cases hle : L.length ≤ j
    · rw [if_pos (hrl.2 hle), if_pos hle]
    · rw [if_neg (fun h => hle (hrl.1 h)), if_neg hle]
      unfold tailW endsA
      rw [hr, List.drop_drop]
theorem wordA_ok {L : List UInt8} {i : Nat} {w : CWord} {j : Nat} {r : List UInt8} (h : i < L.length) (hw : wordA L i = .ok w j r) : r = L.drop j ∧ i ≤ j ∧ j ≤ L.length ∧ smallW j w ∧ w.pos = i := by
  unfold wordA at hw
  rw [List.drop_eq_getElem_cons h] at hw
  obtain ⟨h1, h2, h3, h4, h5⟩ := word_small hw
  rw [← List.drop_eq_getElem_cons h, List.drop_drop, show i + (j - i) = j by omega] at h5
  refine ⟨h5, h3, ?_, h1, h2⟩
  simp only [List.length_cons, List.length_drop] at h4
  rcases Nat.lt_or_ge L.length j with hlt | hle
  · have : r.length = 0 := by rw [h5, List.length_drop]; omega
    omega
  · exact hle
/- commands -/
def scanA (L : List UInt8) (i : Nat) (ws : List CWord) (out : List CCmd) : ScR := scanL i (L.drop i) ws out
theorem scanA_end {L : List UInt8} {i : Nat} (ws : List CWord) (out : List CCmd) (h : L.length ≤ i) : scanA L i ws out = .ok (flushC ws out) := by
  unfold scanA
  rw [List.drop_eq_nil_of_le h, scanL_nil]
theorem scanA_line {L : List UInt8} {i : Nat} (ws : List CWord) (out : List CCmd) (h : i < L.length) (hc : L[i] = 59 ∨ L[i] = 10) : scanA L i ws out = scanA L (i + 1) [] (flushC ws out) := by
  unfold scanA
  rw [List.drop_eq_getElem_cons h, scanL_cons, if_pos hc]
theorem scanA_blank {L : List UInt8} {i : Nat} (ws : List CWord) (out : List CCmd) (h : i < L.length) (h1 : ¬ (L[i] = 59 ∨ L[i] = 10)) (hc : L[i] = 32 ∨ L[i] = 9) : scanA L i ws out = scanA L (i + 1) ws out := by
  unfold scanA
  rw [List.drop_eq_getElem_cons h, scanL_cons, if_neg h1, if_pos hc]
def cmtA (L : List UInt8) (i : Nat) (ws : List CWord) (out : List CCmd) : ScR := scanL (i + ((L.drop i).length - (toLine (L.drop i)).length)) (toLine (L.drop i)) ws out
theorem scanA_cmt {L : List UInt8} {i : Nat} (ws : List CWord) (out : List CCmd) (h : i < L.length) (hc : L[i] = 35) (hw : ws.length = 0) : scanA L i ws out = cmtA L i ws out := by
  have e : toLine (L.drop i) = toLine (L.drop (i + 1)) := by
    rw [List.drop_eq_getElem_cons h, hc]
    rfl
  unfold scanA cmtA
  rw [e]
  have := toLine_le (L.drop (i + 1))
  rw [show i + ((L.drop i).length - (toLine (L.drop (i + 1))).length) = i + 1 + ((L.drop (i + 1)).length - (toLine (L.drop (i + 1))).length) by rw [List.length_drop] at *; rw [List.length_drop]; omega]
  rw [List.drop_eq_getElem_cons h, hc, scanL_cons, if_neg (by decide), if_neg (by decide), if_pos ⟨rfl, hw⟩]
theorem cmtA_on {L : List UInt8} {i : Nat} (ws : List CWord) (out : List CCmd) (h : i < L.length) (hc : L[i] ≠ 10) : cmtA L i ws out = cmtA L (i + 1) ws out := by
  have e : toLine (L.drop i) = toLine (L.drop (i + 1)) := by
    rw [List.drop_eq_getElem_cons h]
    unfold toLine
    rw [List.dropWhile_cons, if_pos (by simpa using hc)]
  unfold cmtA
  rw [e]
  have := toLine_le (L.drop (i + 1))
  rw [show i + ((L.drop i).length - (toLine (L.drop (i + 1))).length) = i + 1 + ((L.drop (i + 1)).length - (toLine (L.drop (i + 1))).length) by rw [List.length_drop] at *; rw [List.length_drop]; omega]
theorem cmtA_end {L : List UInt8} {i : Nat} (ws : List CWord) (out : List CCmd) (h : L.length ≤ i) : cmtA L i ws out = scanA L i ws out := by
  unfold cmtA scanA
  rw [List.drop_eq_nil_of_le h]
  rfl
theorem cmtA_stop {L : List UInt8} {i : Nat} (ws : List CWord) (out : List CCmd) (h : i < L.length) (hc : L[i] = 10) : cmtA L i ws out = scanA L i ws out := by
  have e : toLine (L.drop i) = L.drop i := by
    rw [List.drop_eq_getElem_cons h, hc]
    rfl
  unfold cmtA scanA
  rw [e, Nat.sub_self, Nat.add_zero]
theorem scanA_err {L : List UInt8} {i : Nat} (ws : List CWord) (out : List CCmd) {k a : Nat} (h : i < L.length) (h1 : ¬ (L[i] = 59 ∨ L[i] = 10)) (h2 : ¬ (L[i] = 32 ∨ L[i] = 9)) (h3 : ¬ (L[i] = 35 ∧ ws.length = 0)) (hw : wordA L i = .err k a) : scanA L i ws out = .err k a := by
  unfold wordA at hw
  unfold scanA
  rw [List.drop_eq_getElem_cons h] at hw ⊢
  rw [scanL_cons, if_neg h1, if_neg h2, if_neg h3, hw]
theorem scanA_word {L : List UInt8} {i : Nat} (ws : List CWord) (out : List CCmd) {w : CWord} {j : Nat} {r : List UInt8} (h : i < L.length) (h1 : ¬ (L[i] = 59 ∨ L[i] = 10)) (h2 : ¬ (L[i] = 32 ∨ L[i] = 9)) (h3 : ¬ (L[i] = 35 ∧ ws.length = 0)) (hw : wordA L i = .ok w j r) : scanA L i ws out = scanA L j (ws ++ [w]) out ∧ i < j ∧ j ≤ L.length ∧ smallW j w := by
  obtain ⟨g1, g2, g3, g4, _⟩ := wordA_ok h hw
  have hlt : i < j := by
    have hw2 := hw
    unfold wordA at hw2
    rw [List.drop_eq_getElem_cons h] at hw2
    have := wordL_lt hw2 (endB_false h1 h2)
    rw [g1] at this
    simp only [List.length_drop, List.length_cons] at this
    omega
  refine ⟨?_, hlt, g3, g4⟩
  unfold wordA at hw
  unfold scanA
  rw [g1] at hw
  rw [List.drop_eq_getElem_cons h] at hw ⊢
  rw [scanL_cons, if_neg h1, if_neg h2, if_neg h3, hw]
end Go.Proofs.YtlhpflilpdceiaaDoor
