/- The walk over patoisref.Letter: it says what package text's says. A byte's number. -/
import Derived.Test.YtjhgljfmheopmaaDoorRef5X
import Derived.Test.YtjhgljfmheopmaaDoorCoreW3
import Derived.Outline
set_option linter.unusedVariables false
set_option linter.unusedSimpArgs false
namespace Go.Proofs.YtjhgljfmheopmaaDoor
open Go.RowKit

def letterZ (n : Int) : Bool := decide (97 ≤ n) && decide (n ≤ 122) || decide (65 ≤ n) && decide (n ≤ 90) || decide (48 ≤ n) && decide (n ≤ 57) || n == 95
theorem letter_all : ((List.range 256).all fun n => letterZ (n : Int) == goesZ (n : Int)) = true := by kernel_rfl
theorem begins_all : ((List.range 256).all fun n => (letterZ (n : Int) && !(decide (48 ≤ (n : Int)) && decide ((n : Int) ≤ 57))) == beginsZ (n : Int)) = true := by kernel_rfl
theorem letter_eq (n : Nat) (h : n < 256) : letterZ (n : Int) = goesZ (n : Int) := by
  have := List.all_eq_true.1 letter_all n (List.mem_range.2 h)
  simpa using this
theorem begins_eq (n : Nat) (h : n < 256) : (letterZ (n : Int) && !(decide (48 ≤ (n : Int)) && decide ((n : Int) ≤ 57))) = beginsZ (n : Int) := by
  have := List.all_eq_true.1 begins_all n (List.mem_range.2 h)
  exact beq_iff_eq.1 this
set_option maxHeartbeats 2000000 in
theorem letter_any (n : Int) (w : World) : Calls Tryd.prog 88 #[.int .u8 n] w fun e w' => e = .returned (.bool (letterZ n)) ∧ w' = w := by
  have HZ := Lib.hid (show letterZ n = (decide (97 ≤ n) && decide (n ≤ 122) || decide (65 ≤ n) && decide (n ≤ 90) || decide (48 ≤ n) && decide (n ≤ 57) || n == 95) from rfl)
  generalize letterZ n = Z at *
  cases h1 : decide (97 ≤ n) <;> cases h2 : decide (n ≤ 122) <;> cases h3 : decide (65 ≤ n) <;> cases h4 : decide (n ≤ 90) <;> cases h5 : decide (48 ≤ n) <;> cases h6 : decide (n ≤ 57)
  all_goals first
    | (exfalso; simp only [decide_eq_true_eq, decide_eq_false_iff_not] at h1 h2 h3 h4 h5 h6; omega)
    | skip
  all_goals
    go_enter Tryd.func88, Tryd.ntmps88
    go_wp2_with fail
    go_ret
    exact ⟨name_ret (by rw [HZ.out, h1, h2, h3, h4, h5, h6]; rfl), rfl⟩
end Go.Proofs.YtjhgljfmheopmaaDoor
