/- Lists and texts just small enough, or one too great: chapter 3's bounds with no program in sight. No condition. -/
import Derived.Test.YtckcpokfjofcaaaDoorListM
set_option linter.unusedVariables false
set_option linter.unusedSimpArgs false
namespace Go.Proofs.YtckcpokfjofcaaaDoor

def emp (n : Nat) : List (List UInt8) := List.replicate n []
def xs (m : Nat) : List UInt8 := List.replicate m 120
theorem emp_len (n : Nat) : (emp n).length = n := by simp [emp]
theorem xs_len (m : Nat) : (xs m).length = m := by simp [xs]
theorem emp_any (n : Nat) : (emp n).any longT = false := by
  rw [List.any_eq_false]
  intro x hx
  rw [emp, List.mem_replicate] at hx
  rw [hx.2]
  decide
theorem emp_big (n : Nat) : bigL (emp n) = decide (100 < n) := by rw [bigL, emp_len, emp_any, Bool.or_false]
theorem one_big (s : List UInt8) : bigL [s] = decide (2000 < s.length) := by simp [bigL, longT]
theorem cat_emp (n : Nat) : catL [emp n] = if 100 < n then none else some (emp n) := by
  rw [catL, catGo, List.nil_append, emp_len]
  split
  · rfl
  · rename_i h
    rw [catGo, boundL, emp_big, decide_eq_false h]
    rfl
theorem cat_emp2 (n k : Nat) (hk : k ≤ n) (hk2 : k ≤ 100) : catL [(emp n).take k, (emp n).drop k] = if 100 < n then none else some (emp n) := by
  rw [catL, catGo, List.nil_append, if_neg (by rw [List.length_take, emp_len]; omega), catGo, List.take_append_drop, emp_len]
  split
  · rfl
  · rename_i h
    rw [catGo, boundL, emp_big, decide_eq_false h]
    rfl
theorem bound_one (s : List UInt8) : boundL [s] = if 2000 < s.length then none else some [s] := by
  rw [boundL, one_big]
  by_cases h : 2000 < s.length
  · rw [decide_eq_true h, if_pos rfl, if_pos h]
  · rw [decide_eq_false h, if_neg Bool.noConfusion, if_neg h]
theorem join_one (x y : List UInt8) : joinL [[x], [y]] = if 2000 < (x ++ y).length then none else some [x ++ y] := by
  have h1 : someL [x] = [x] := someL_id (Nat.zero_lt_succ _)
  have h2 : someL [y] = [y] := someL_id (Nat.zero_lt_succ _)
  have h3 : twoL [x] [y] = boundL [x ++ y] := by
    rw [twoL, h1, h2, if_neg (by show ¬ 100 < lenT 1 1; decide)]
    congr 1
  rw [joinL, h1, joinGo, h3, bound_one]
  by_cases h : 2000 < (x ++ y).length
  · rw [if_pos h]
  · rw [if_neg h]
    simp only
    rw [joinGo, bound_one, if_neg h]
theorem join_xs (m k : Nat) (hk : k ≤ m) : joinL [[(xs m).take k], [(xs m).drop k]] = if 2000 < m then none else some [xs m] := by
  rw [join_one, List.take_append_drop, xs_len]
theorem flat_xs (m : Nat) (hm : 11 ≤ m) : flatTx [(xs m).take 10, (xs m).drop 11] = if 2000 < m then none else some [(xs m).take 10 ++ 32 :: (xs m).drop 11] := by
  have h : [(xs m).take 10, (xs m).drop 11].length - 1 + sumL [(xs m).take 10, (xs m).drop 11] = m := by
    simp only [sumL, List.length_cons, List.length_nil, List.length_take, List.length_drop, xs_len]
    omega
  rw [flatTx, h]
  rfl
theorem xs_snoc (k : Nat) : xs (k + 1) = xs k ++ [120] := by rw [xs, xs, List.replicate_succ']
theorem flat_len11 (m : Nat) (hm : 11 ≤ m) : ((xs m).take 10 ++ 32 :: (xs m).drop 11).length = m := by
  simp only [List.length_append, List.length_cons, List.length_take, List.length_drop, xs_len]
  omega
end Go.Proofs.YtckcpokfjofcaaaDoor
