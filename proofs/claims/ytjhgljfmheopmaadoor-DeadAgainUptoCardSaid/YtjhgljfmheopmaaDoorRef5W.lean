/- The walks over the small functions of package patoisref5: they say what package core's say. Bounds on the numbers. -/
import Derived.Test.YtjhgljfmheopmaaDoorCoreW5
import Derived.Outline
set_option linter.unusedVariables false
set_option linter.unusedSimpArgs false
namespace Go.Proofs.YtjhgljfmheopmaaDoor
open Go.RowKit

theorem word5_any (k : Int) (w : World) : Calls Tryd.prog 64 #[.int .i64 k] w fun e w' => e = .returned (.bool (wordB k)) ∧ w' = w := by
  by_cases h1 : 1 ≤ k
  all_goals by_cases h2 : k ≤ 12
  all_goals first
    | (exfalso; omega)
    | (go_enter Tryd.func64, Tryd.ntmps64
       go_wp2_with fail
       go_ret
       exact ⟨name_ret (by simp [wordB, h1, h2]), rfl⟩)
theorem command5k_any (k : Int) (w : World) : Calls Tryd.prog 65 #[.int .i64 k] w fun e w' => e = .returned (.bool (commandB k)) ∧ w' = w := by
  by_cases h1 : 20 ≤ k
  all_goals by_cases h2 : k ≤ 37
  all_goals first
    | (exfalso; omega)
    | (go_enter Tryd.func65, Tryd.ntmps65
       go_wp2_with fail
       go_ret
       exact ⟨name_ret (by simp [commandB, h1, h2]), rfl⟩)
set_option maxRecDepth 100000 in
set_option maxHeartbeats 4000000 in
theorem count5_any (kind k : Int) (w : World) (hk : (1 ≤ kind ∧ kind ≤ 12) ∨ (20 ≤ kind ∧ kind ≤ 37)) : Calls Tryd.prog 79 #[.int .i64 kind, .int .i64 k] w fun e w' => e = .returned (.bool (childrenB kind k)) ∧ w' = w := by
  obtain rfl | rfl | rfl | rfl | rfl | rfl | rfl | rfl | rfl | rfl | rfl | rfl | rfl | rfl | rfl | rfl | rfl | rfl | rfl | rfl | rfl | rfl | rfl | rfl | rfl | rfl | rfl | rfl | rfl | rfl : kind = 1 ∨ kind = 2 ∨ kind = 3 ∨ kind = 4 ∨ kind = 5 ∨ kind = 6 ∨ kind = 7 ∨ kind = 8 ∨ kind = 9 ∨ kind = 10 ∨ kind = 11 ∨ kind = 12 ∨ kind = 20 ∨ kind = 21 ∨ kind = 22 ∨ kind = 23 ∨ kind = 24 ∨ kind = 25 ∨ kind = 26 ∨ kind = 27 ∨ kind = 28 ∨ kind = 29 ∨ kind = 30 ∨ kind = 31 ∨ kind = 32 ∨ kind = 33 ∨ kind = 34 ∨ kind = 35 ∨ kind = 36 ∨ kind = 37 := by omega
  all_goals clear hk
  all_goals
    go_enter Tryd.func79, Tryd.ntmps79
    go_wp2_with fail
    all_goals
      go_ret
      exact ⟨name_ret (by first | rfl | (simp [childrenB, *]; done) | (simp [childrenB, *]; omega) | (simp [childrenB, *]; intros; omega)), rfl⟩
set_option maxRecDepth 100000 in
set_option maxHeartbeats 4000000 in
theorem command5_any (kind K : Int) (i : Nat) (w : World) (hk : (1 ≤ kind ∧ kind ≤ 12) ∨ (20 ≤ kind ∧ kind ≤ 37)) (hK : 0 ≤ K) (hK2 : K ≤ 9223372036854775807) (hi : (i : Int) < K) (hi2 : i ≤ 4000000) (h2 : kind = 29 ∨ kind = 35 ∨ kind = 33 ∨ kind = 34 → K = 2) :
    Calls Tryd.prog 68 #[.int .i64 kind, .int .i64 i, .int .i64 K] w fun e w' => e = .returned (.bool (!takesB kind K i)) ∧ w' = w := by
  obtain rfl | rfl | rfl | rfl | rfl | rfl | rfl | rfl | rfl | rfl | rfl | rfl | rfl | rfl | rfl | rfl | rfl | rfl | rfl | rfl | rfl | rfl | rfl | rfl | rfl | rfl | rfl | rfl | rfl | rfl : kind = 1 ∨ kind = 2 ∨ kind = 3 ∨ kind = 4 ∨ kind = 5 ∨ kind = 6 ∨ kind = 7 ∨ kind = 8 ∨ kind = 9 ∨ kind = 10 ∨ kind = 11 ∨ kind = 12 ∨ kind = 20 ∨ kind = 21 ∨ kind = 22 ∨ kind = 23 ∨ kind = 24 ∨ kind = 25 ∨ kind = 26 ∨ kind = 27 ∨ kind = 28 ∨ kind = 29 ∨ kind = 30 ∨ kind = 31 ∨ kind = 32 ∨ kind = 33 ∨ kind = 34 ∨ kind = 35 ∨ kind = 36 ∨ kind = 37 := by omega
  all_goals clear hk
  all_goals simp at h2
  all_goals
    go_enter Tryd.func68, Tryd.ntmps68
    go_wp2_with fail
    all_goals
      go_ret
      exact ⟨name_ret (by first | rfl | (simp [takesB, *]; done) | (simp [takesB, *]; omega) | (rw [Bool.eq_iff_iff]; simp [takesB, *]; omega)), rfl⟩
end Go.Proofs.YtjhgljfmheopmaaDoor
