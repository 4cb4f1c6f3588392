/- Lists of texts as chapter 3 has them, with no program in sight. No condition. -/
import Derived.Test.YtjpfolbghjhodaaDoorPatM
set_option linter.unusedVariables false
set_option linter.unusedSimpArgs false
namespace Go.Proofs.YtjpfolbghjhodaaDoor

def longT (s : List UInt8) : Bool := decide (2000 < s.length)
def bigL (l : List (List UInt8)) : Bool := decide (100 < l.length) || l.any longT
def boundL (l : List (List UInt8)) : Option (List (List UInt8)) := if bigL l then none else some l
/-- What becomes of each item, one behind the other; too many: none. -/
def eachGo (f : List UInt8 → List (List UInt8)) : List (List UInt8) → List (List UInt8) → Option (List (List UInt8))
  | [], acc => boundL acc
  | s :: t, acc => if 100 < (acc ++ f s).length then none else eachGo f t (acc ++ f s)
def eachL (f : List UInt8 → List (List UInt8)) (l : List (List UInt8)) : Option (List (List UInt8)) := eachGo f l []
def catGo : List (List (List UInt8)) → List (List UInt8) → Option (List (List UInt8))
  | [], acc => boundL acc
  | x :: t, acc => if 100 < (acc ++ x).length then none else catGo t (acc ++ x)
def catL (l : List (List (List UInt8))) : Option (List (List UInt8)) := catGo l []
def someL (l : List (List UInt8)) : List (List UInt8) := if l.length = 0 then [[]] else l
def lenT (a b : Nat) : Nat := if a = 1 ∨ b = 1 then max a b else min a b
/-- The item that stands for place i. -/
def atI (a : List (List UInt8)) (i : Nat) : List UInt8 := a.getD (min i (a.length - 1)) []
def pairsL (a b : List (List UInt8)) : List (List UInt8) := (List.range (lenT a.length b.length)).map fun i => atI a i ++ atI b i
def twoL (a b : List (List UInt8)) : Option (List (List UInt8)) := if 100 < lenT (someL a).length (someL b).length then none else boundL (pairsL (someL a) (someL b))
def joinGo : List (List (List UInt8)) → List (List UInt8) → Option (List (List UInt8))
  | [], acc => boundL acc
  | x :: t, acc => match twoL acc x with
    | none => none
    | some r => joinGo t r
def joinL : List (List (List UInt8)) → Option (List (List UInt8))
  | [] => some [[]]
  | x :: t => joinGo t (someL x)
/-- How many bytes there are. -/
def sumL : List (List UInt8) → Nat
  | [] => 0
  | s :: t => s.length + sumL t
def spaced : List (List UInt8) → List UInt8
  | [] => []
  | [s] => s
  | s :: u :: t => s ++ 32 :: spaced (u :: t)
def flatTx (l : List (List UInt8)) : Option (List (List UInt8)) := if 2000 < l.length - 1 + sumL l then none else some [spaced l]

theorem longT_iff (s : List UInt8) : longT s = true ↔ 2000 < s.length := by simp [longT]
theorem bigL_false {l : List (List UInt8)} : bigL l = false ↔ l.length ≤ 100 ∧ ∀ s ∈ l, s.length ≤ 2000 := by
  rw [bigL, Bool.or_eq_false_iff, decide_eq_false_iff_not, Nat.not_lt, List.any_eq_false]
  refine and_congr Iff.rfl ⟨fun h s hs => ?_, fun h s hs => ?_⟩
  · have := h s hs
    rw [longT_iff] at this
    omega
  · rw [longT_iff]
    have := h s hs
    omega
theorem bound_some {l r : List (List UInt8)} (h : boundL l = some r) : l = r ∧ bigL r = false := by
  unfold boundL at h
  split at h
  · cases h
  · rename_i hb
    injection h with h
    subst h
    exact ⟨rfl, by simpa using hb⟩
theorem bound_of {l : List (List UInt8)} (h : bigL l = false) : boundL l = some l := by unfold boundL; rw [h]; rfl
theorem spaced_len : ∀ l : List (List UInt8), (spaced l).length = l.length - 1 + sumL l
  | [] => rfl
  | [s] => by simp [spaced, sumL]
  | s :: u :: t => by
    have h := spaced_len (u :: t)
    rw [spaced, List.length_append, List.length_cons, h]
    simp only [sumL, List.length_cons]
    omega

/- sums -/
theorem cat_ok : ∀ (l : List (List (List UInt8))) (acc : List (List UInt8)), acc.length + l.flatten.length ≤ 100 → (∀ s ∈ acc, s.length ≤ 2000) → (∀ x ∈ l, ∀ s ∈ x, s.length ≤ 2000) → catGo l acc = some (acc ++ l.flatten)
  | [], acc, h, h1, h2 => by
    rw [catGo, bound_of (bigL_false.2 ⟨by simpa using h, h1⟩)]; simp
  | x :: t, acc, h, h1, h2 => by
    rw [List.flatten_cons, List.length_append] at h
    rw [catGo, if_neg (by rw [List.length_append]; omega), cat_ok t (acc ++ x) (by rw [List.length_append]; omega) ?_ (fun y hy => h2 y (List.mem_cons_of_mem _ hy)), List.flatten_cons, List.append_assoc]
    intro s hs
    rcases List.mem_append.1 hs with hs | hs
    · exact h1 s hs
    · exact h2 x (List.mem_cons_self ..) s hs
theorem cat_some : ∀ (l : List (List (List UInt8))) (acc r : List (List UInt8)), catGo l acc = some r → r = acc ++ l.flatten ∧ bigL r = false
  | [], acc, r, h => by
    rw [catGo] at h
    obtain ⟨rfl, hb⟩ := bound_some h
    exact ⟨by simp, hb⟩
  | x :: t, acc, r, h => by
    rw [catGo] at h
    split at h
    · cases h
    · obtain ⟨rfl, hb⟩ := cat_some t _ _ h
      exact ⟨by rw [List.flatten_cons, List.append_assoc], hb⟩

/- joins -/
theorem someL_pos (l : List (List UInt8)) : 0 < (someL l).length := by
  unfold someL; split
  · simp
  · omega
theorem someL_id {l : List (List UInt8)} (h : 0 < l.length) : someL l = l := by unfold someL; rw [if_neg (by omega)]
theorem someL_some (l : List (List UInt8)) : someL (someL l) = someL l := someL_id (someL_pos l)
theorem lenT_pos {a b : Nat} (ha : 0 < a) (hb : 0 < b) : 0 < lenT a b := by unfold lenT; split <;> omega
theorem pairsL_len (a b : List (List UInt8)) : (pairsL a b).length = lenT a.length b.length := by simp [pairsL]
theorem lenT_assoc {a b c : Nat} (ha : 0 < a) (hb : 0 < b) (hc : 0 < c) : lenT (lenT a b) c = lenT a (lenT b c) := by
  unfold lenT
  repeat' split
  all_goals omega
theorem pairsL_at (a b : List (List UInt8)) (i : Nat) (ha : 0 < a.length) (hb : 0 < b.length) (h : i < lenT a.length b.length ∨ lenT a.length b.length = 1) : atI (pairsL a b) i = atI a i ++ atI b i := by
  rcases h with h | h
  · rw [atI, pairsL_len, Nat.min_eq_left (by omega), pairsL, List.getD_eq_getElem?_getD, List.getElem?_map, List.getElem?_range h]
    rfl
  · have h1 : a.length = 1 ∧ b.length = 1 := by
      unfold lenT at h
      split at h <;> omega
    rw [atI, pairsL_len, h, Nat.sub_self, Nat.min_zero, pairsL, List.getD_eq_getElem?_getD, List.getElem?_map, List.getElem?_range (by omega)]
    simp [atI, h1.1, h1.2]
theorem pairsL_assoc (a b c : List (List UInt8)) (ha : 0 < a.length) (hb : 0 < b.length) (hc : 0 < c.length) : pairsL (pairsL a b) c = pairsL a (pairsL b c) := by
  have hab := lenT_pos ha hb
  have hbc := lenT_pos hb hc
  have hl : lenT (pairsL a b).length c.length = lenT a.length (pairsL b c).length := by rw [pairsL_len, pairsL_len, lenT_assoc ha hb hc]
  conv => lhs; unfold pairsL
  conv => rhs; unfold pairsL
  rw [show lenT (List.map (fun i => atI a i ++ atI b i) (List.range (lenT a.length b.length))).length c.length = lenT a.length (List.map (fun i => atI b i ++ atI c i) (List.range (lenT b.length c.length))).length from hl]
  refine List.map_congr_left fun i hi => ?_
  rw [List.mem_range] at hi
  have h1 : i < lenT (lenT a.length b.length) c.length := by rw [lenT_assoc ha hb hc]; simpa using hi
  have h2 : i < lenT a.length (lenT b.length c.length) := by simpa using hi
  show atI (pairsL a b) i ++ atI c i = atI a i ++ atI (pairsL b c) i
  rw [pairsL_at a b i ha hb ?_, pairsL_at b c i hb hc ?_, List.append_assoc]
  · generalize lenT b.length c.length = n at *
    unfold lenT at h2
    split at h2 <;> omega
  · generalize lenT a.length b.length = n at *
    unfold lenT at h1
    split at h1 <;> omega
theorem two_some {a b r : List (List UInt8)} (h : twoL a b = some r) : r = pairsL (someL a) (someL b) ∧ bigL r = false := by
  unfold twoL at h
  split at h
  · cases h
  · obtain ⟨rfl, hb⟩ := bound_some h
    exact ⟨rfl, hb⟩
theorem join2 {a b r : List (List UInt8)} (h : joinL [a, b] = some r) : twoL (someL a) b = some r ∧ r = pairsL (someL a) (someL b) ∧ bigL r = false := by
  rw [joinL, joinGo] at h
  split at h
  · cases h
  · rename_i q hq
    rw [joinGo] at h
    obtain ⟨rfl, hb⟩ := bound_some h
    refine ⟨hq, ?_, hb⟩
    have := (two_some hq).1
    rwa [someL_some] at this
/-- Joined in any groups it is the same. -/
theorem join_group {a b c ab bc x y : List (List UInt8)} (h1 : joinL [a, b] = some ab) (h2 : joinL [b, c] = some bc) (h3 : joinL [ab, c] = some x) (h4 : joinL [a, bc] = some y) : joinL [a, b, c] = some x ∧ y = x := by
  obtain ⟨e1, rfl, b1⟩ := join2 h1
  obtain ⟨e2, rfl, b2⟩ := join2 h2
  obtain ⟨e3, r3, b3⟩ := join2 h3
  obtain ⟨e4, r4, b4⟩ := join2 h4
  have pa := someL_pos a
  have pb := someL_pos b
  have pc := someL_pos c
  have hab : someL (pairsL (someL a) (someL b)) = pairsL (someL a) (someL b) := someL_id (by rw [pairsL_len]; exact lenT_pos pa pb)
  have hbc : someL (pairsL (someL b) (someL c)) = pairsL (someL b) (someL c) := someL_id (by rw [pairsL_len]; exact lenT_pos pb pc)
  rw [hab] at e3 r3
  rw [hbc] at r4
  refine ⟨?_, by rw [r3, r4, pairsL_assoc _ _ _ pa pb pc]⟩
  rw [joinL, joinGo, e1]
  show joinGo [c] _ = _
  rw [joinGo, e3]
  show joinGo [] x = _
  rw [joinGo, bound_of b3]

/- each -/
theorem each_some (f : List UInt8 → List (List UInt8)) : ∀ (l acc r : List (List UInt8)), eachGo f l acc = some r → r = acc ++ l.flatMap f ∧ bigL r = false
  | [], acc, r, h => by
    rw [eachGo] at h
    obtain ⟨rfl, hb⟩ := bound_some h
    exact ⟨by simp, hb⟩
  | x :: t, acc, r, h => by
    rw [eachGo] at h
    split at h
    · cases h
    · obtain ⟨rfl, hb⟩ := each_some f t _ _ h
      exact ⟨by rw [List.flatMap_cons, List.append_assoc], hb⟩
theorem each_ok (f : List UInt8 → List (List UInt8)) : ∀ (l acc : List (List UInt8)), bigL (acc ++ l.flatMap f) = false → eachGo f l acc = some (acc ++ l.flatMap f)
  | [], acc, h => by
    rw [eachGo, bound_of (by simpa using h)]; simp
  | x :: t, acc, h => by
    rw [List.flatMap_cons, ← List.append_assoc] at h
    have h1 := (bigL_false.1 h).1
    rw [List.length_append] at h1
    rw [eachGo, if_neg (by omega), each_ok f t _ h, List.flatMap_cons, List.append_assoc]
end Go.Proofs.YtjpfolbghjhodaaDoor
