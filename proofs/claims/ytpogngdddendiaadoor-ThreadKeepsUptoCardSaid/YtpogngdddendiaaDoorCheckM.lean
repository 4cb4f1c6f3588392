/- What core.Check does, as a plain function on lists of nodes, with no program in sight. No condition. -/
import Derived.Test.YtpogngdddendiaaDoorCoreW5
set_option linter.unusedVariables false
set_option linter.unusedSimpArgs false
namespace Go.Proofs.YtpogngdddendiaaDoor

def kindB (word : Bool) (kind : Int) : Bool := if word then wordB kind else commandB kind
/-- Is a node amiss, but for its children? -/
def headBad (x : Nd) (room : Int) (word last : Bool) : Bool := !kindB word x.kind || !fieldsB x || !childrenB x.kind x.k || decide (x.size < 1) || decide (x.size > room) || (last && x.size != room)
/-- Do so many children, from place c on, not begin within the node? -/
def preP (L : List Nd) (e : Nat) : Nat → Nat → Bool
  | 0, _ => false
  | r + 1, c => if e ≤ c then true else match L[c]? with
    | none => true
    | some y => if y.size < 1 ∨ y.size > (e : Int) - c then false else preP L e r (c + y.size.toNat)
def kidsP (f : Nat → Nat → Option (Nat × Bool)) (L : List Nd) : Nat → Nat → Nat → Option (Nat × Bool)
  | 0, _, _ => none
  | r + 1, k, c => match f k c with
    | some z => some z
    | none => kidsP f L r (k + 1) (c + match L[c]? with | some y => y.size.toNat | none => 0)
/-- What is amiss with the node at place i, which is to end at e at most: the place, and whether it is nested too deep; d: so many levels more may be. -/
def lookP (L : List Nd) : Nat → Nat → Nat → Bool → Bool → Option (Nat × Bool)
  | d, i, e, word, last => match L[i]? with
    | none => none
    | some x =>
      if headBad x ((e : Int) - i) word last then some (i, false) else
      if x.k = 0 ∧ x.size ≠ 1 then some (i, false) else
      if preP L (i + x.size.toNat) x.k.toNat (i + 1) then some (i, false) else
      match d with
      | 0 => some (i, true)
      | d + 1 => kidsP (fun k c => lookP L d c (i + x.size.toNat) (takesB x.kind x.k k) (decide ((k : Int) = x.k - 1))) L x.k.toNat 0 (i + 1)
def manyB (L : List Nd) : Bool := L.length == 0 || decide (L.length > 3000)

theorem headBad_false {x : Nd} {room : Int} {word last : Bool} (h : headBad x room word last = false) : kindB word x.kind = true ∧ fieldsB x = true ∧ childrenB x.kind x.k = true ∧ 1 ≤ x.size ∧ x.size ≤ room ∧ (last = true → x.size = room) := by
  simp only [headBad, Bool.or_eq_false_iff, Bool.not_eq_false', decide_eq_false_iff_not, Bool.and_eq_false_iff, bne_eq_false_iff_eq] at h
  obtain ⟨⟨⟨⟨⟨h1, h2⟩, h3⟩, h4⟩, h5⟩, h6⟩ := h
  refine ⟨h1, h2, h3, by omega, by omega, fun hl => ?_⟩
  rcases h6 with h6 | h6
  · rw [hl] at h6; cases h6
  · exact h6
theorem children_k {kind k : Int} (h : childrenB kind k = true) : 0 ≤ k := by
  unfold childrenB at h
  repeat' (split at h)
  all_goals simp only [beq_iff_eq, decide_eq_true_eq, Bool.and_eq_true] at h
  all_goals omega
theorem lookP_bad {L : List Nd} {d i e : Nat} {word last : Bool} {x : Nd} (hx : L[i]? = some x) (h : headBad x ((e : Int) - i) word last = true) : lookP L d i e word last = some (i, false) := by
  unfold lookP
  rw [hx]
  simp only
  rw [if_pos h]
theorem lookP_leaf {L : List Nd} {d i e : Nat} {word last : Bool} {x : Nd} (hx : L[i]? = some x) (h : headBad x ((e : Int) - i) word last = false) (h2 : x.k = 0 ∧ x.size ≠ 1) : lookP L d i e word last = some (i, false) := by
  unfold lookP
  rw [hx]
  simp only
  rw [if_neg (by rw [h]; exact Bool.noConfusion), if_pos h2]
theorem lookP_pre {L : List Nd} {d i e : Nat} {word last : Bool} {x : Nd} (hx : L[i]? = some x) (h : headBad x ((e : Int) - i) word last = false) (h2 : ¬ (x.k = 0 ∧ x.size ≠ 1)) (h3 : preP L (i + x.size.toNat) x.k.toNat (i + 1) = true) : lookP L d i e word last = some (i, false) := by
  unfold lookP
  rw [hx]
  simp only
  rw [if_neg (by rw [h]; exact Bool.noConfusion), if_neg h2, if_pos h3]
theorem lookP_deep {L : List Nd} {i e : Nat} {word last : Bool} {x : Nd} (hx : L[i]? = some x) (h : headBad x ((e : Int) - i) word last = false) (h2 : ¬ (x.k = 0 ∧ x.size ≠ 1)) (h3 : preP L (i + x.size.toNat) x.k.toNat (i + 1) = false) : lookP L 0 i e word last = some (i, true) := by
  unfold lookP
  rw [hx]
  simp only
  rw [if_neg (by rw [h]; exact Bool.noConfusion), if_neg h2, if_neg (by rw [h3]; exact Bool.noConfusion)]
theorem lookP_kids {L : List Nd} {d i e : Nat} {word last : Bool} {x : Nd} (hx : L[i]? = some x) (h : headBad x ((e : Int) - i) word last = false) (h2 : ¬ (x.k = 0 ∧ x.size ≠ 1)) (h3 : preP L (i + x.size.toNat) x.k.toNat (i + 1) = false) :
    lookP L (d + 1) i e word last = kidsP (fun k c => lookP L d c (i + x.size.toNat) (takesB x.kind x.k k) (decide ((k : Int) = x.k - 1))) L x.k.toNat 0 (i + 1) := by
  conv => lhs; unfold lookP
  rw [hx]
  simp only
  rw [if_neg (by rw [h]; exact Bool.noConfusion), if_neg h2, if_neg (by rw [h3]; exact Bool.noConfusion)]
/-- A node of which nothing is amiss is of a size that fits. -/
theorem lookP_fits {L : List Nd} {d i e : Nat} {word last : Bool} (hi : i < L.length) (h : lookP L d i e word last = none) : 1 ≤ L[i].size ∧ L[i].size ≤ (e : Int) - i ∧ (last = true → L[i].size = (e : Int) - i) := by
  cases hb : headBad L[i] ((e : Int) - i) word last with
  | true => rw [lookP_bad (List.getElem?_eq_getElem hi) hb] at h; cases h
  | false =>
    obtain ⟨_, _, _, h4, h5, h6⟩ := headBad_false hb
    exact ⟨h4, h5, h6⟩
theorem preP_end {L : List Nd} {e r c : Nat} (h : e ≤ c) : preP L e (r + 1) c = true := by
  rw [preP, if_pos h]
theorem preP_bad {L : List Nd} {e r c : Nat} (h : c < e) (hc : c < L.length) (hs : L[c].size < 1 ∨ L[c].size > (e : Int) - c) : preP L e (r + 1) c = false := by
  rw [preP, if_neg (by omega), List.getElem?_eq_getElem hc]
  simp only
  rw [if_pos hs]
theorem preP_next {L : List Nd} {e r c : Nat} (h : c < e) (hc : c < L.length) (hs : ¬ (L[c].size < 1 ∨ L[c].size > (e : Int) - c)) : preP L e (r + 1) c = preP L e r (c + L[c].size.toNat) := by
  rw [preP, if_neg (by omega), List.getElem?_eq_getElem hc]
  simp only
  rw [if_neg hs]
theorem kidsP_some {f : Nat → Nat → Option (Nat × Bool)} {L : List Nd} {r k c : Nat} {z : Nat × Bool} (h : f k c = some z) : kidsP f L (r + 1) k c = some z := by
  rw [kidsP, h]
theorem kidsP_none {f : Nat → Nat → Option (Nat × Bool)} {L : List Nd} {r k c : Nat} (h : f k c = none) (hc : c < L.length) : kidsP f L (r + 1) k c = kidsP f L r (k + 1) (c + L[c].size.toNat) := by
  rw [kidsP, h, List.getElem?_eq_getElem hc]
/-- What Check answers where there are not too many nodes. -/
def checkP (L : List Nd) : Option (Nat × Bool) := lookP L 30 0 L.length false true
end Go.Proofs.YtpogngdddendiaaDoor
