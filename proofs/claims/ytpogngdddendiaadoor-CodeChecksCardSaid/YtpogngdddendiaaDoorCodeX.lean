/- The walks over the law's names and fault. Bounds on the lengths. -/
import Derived.Test.YtpogngdddendiaaDoorCodeW
import Derived.Test.YtpogngdddendiaaDoorCodeH
import Derived.Test.YtpogngdddendiaaDoorGS
set_option linter.unusedVariables false
set_option linter.unusedSimpArgs false
namespace Go.Proofs.YtpogngdddendiaaDoor
open Go.RowKit

def LNames (w : World) (e : Ending) (w' : World) : Prop := ∃ g, e = .returned (.slice (some ⟨g, 0, none⟩) 41 41) ∧ (∀ k : Nat, k < 41 → w'.cell? ⟨g, k, none⟩ = some (.string (nameS (k + 1)))) ∧ Below w.heap.size w w'
theorem namesA_tail : ∀ k : Nat, k < 41 → (namesA.extract 1 42)[k]? = some (.string (nameS (k + 1))) := by
  intro k hk
  have h : k = 0 ∨ k = 1 ∨ k = 2 ∨ k = 3 ∨ k = 4 ∨ k = 5 ∨ k = 6 ∨ k = 7 ∨ k = 8 ∨ k = 9 ∨ k = 10 ∨ k = 11 ∨ k = 12 ∨ k = 13 ∨ k = 14 ∨ k = 15 ∨ k = 16 ∨ k = 17 ∨ k = 18 ∨ k = 19 ∨ k = 20 ∨ k = 21 ∨ k = 22 ∨ k = 23 ∨ k = 24 ∨ k = 25 ∨ k = 26 ∨ k = 27 ∨ k = 28 ∨ k = 29 ∨ k = 30 ∨ k = 31 ∨ k = 32 ∨ k = 33 ∨ k = 34 ∨ k = 35 ∨ k = 36 ∨ k = 37 ∨ k = 38 ∨ k = 39 ∨ k = 40 := by omega
  rcases h with rfl | rfl | rfl | rfl | rfl | rfl | rfl | rfl | rfl | rfl | rfl | rfl | rfl | rfl | rfl | rfl | rfl | rfl | rfl | rfl | rfl | rfl | rfl | rfl | rfl | rfl | rfl | rfl | rfl | rfl | rfl | rfl | rfl | rfl | rfl | rfl | rfl | rfl | rfl | rfl | rfl <;> rfl
set_option maxRecDepth 100000 in
set_option maxHeartbeats 4000000 in
theorem lnames_any (w : World) : Calls Tryd.prog 28 #[] w (LNames w) := by
  have HB := Lib.hid (Blk.new w 9 (namesA.extract 1 42))
  have HW := Lib.hid (show Below w.heap.size w (w.alloc (.cells (namesA.extract 1 42) 9)) from (Below.refl _ _).alloc (Nat.le_refl _) _)
  go_enter Tryd.func28, Tryd.ntmps28
  go_wp2_with fail
  go_ret
  exact ⟨w.heap.size, rfl, fun k hk => by rw [← namesA_tail k hk]; exact HB.out.cell k, HW.out⟩
theorem okI_b2 (m : Nat) (x : Ins) (hm : 0 < m) : (decide (x.op < 1) || decide (41 < x.op) || (placeA x.op && (decide (x.a < 0) || decide ((m : Int) ≤ x.a))) || (placeB x.op && (decide (x.b < 0) || decide ((m : Int) ≤ x.b))) || decide (2000 < (x.s.length : Int)) || (decide (x.a < 0) && countA x.op)) = !okI (m - 1) x := by
  have e1 : decide (x.op < 1) = !decide (1 ≤ x.op) := by rw [← decide_not]; congr 1; exact propext (by omega)
  have e2 : decide (41 < x.op) = !decide (x.op ≤ 41) := by rw [← decide_not]; congr 1; exact propext (by omega)
  have e3 : decide (x.a < 0) = !decide (0 ≤ x.a) := by rw [← decide_not]; congr 1; exact propext (by omega)
  have e4 : decide ((m : Int) ≤ x.a) = !decide (x.a ≤ ((m - 1 : Nat) : Int)) := by rw [← decide_not]; congr 1; exact propext (by omega)
  have e5 : decide (x.b < 0) = !decide (0 ≤ x.b) := by rw [← decide_not]; congr 1; exact propext (by omega)
  have e6 : decide ((m : Int) ≤ x.b) = !decide (x.b ≤ ((m - 1 : Nat) : Int)) := by rw [← decide_not]; congr 1; exact propext (by omega)
  have e7 : decide (2000 < (x.s.length : Int)) = !decide (x.s.length ≤ 2000) := by rw [← decide_not]; congr 1; exact propext (by omega)
  unfold okI
  rw [e1, e2, e3, e4, e5, e6, e7]
  generalize decide (1 ≤ x.op) = d1
  generalize decide (x.op ≤ 41) = d2
  generalize decide (0 ≤ x.a) = d3
  generalize decide (x.a ≤ ((m - 1 : Nat) : Int)) = d4
  generalize decide (0 ≤ x.b) = d5
  generalize decide (x.b ≤ ((m - 1 : Nat) : Int)) = d6
  generalize decide (x.s.length ≤ 2000) = d7
  generalize placeA x.op = pa
  generalize placeB x.op = pb
  generalize countA x.op = ca
  cases d1
  · rfl
  cases d2
  · rfl
  cases pa <;> cases pb <;> cases ca <;> cases d3 <;> cases d4 <;> cases d5 <;> cases d6 <;> cases d7 <;> rfl
theorem placedN_any (code pos : Int) (w : World) (hc : code ≠ 0) : Calls Tryd.prog 47 #[.int .i64 code, .int .i64 pos] w (FltNRet code [pos] w) := by
  have hq : (code == (0 : Int)) = false := by simp [hc]
  clear hc
  have HBK := Lib.hid (fun (o : Obj) => show Blk ((w.alloc o).alloc (.cells #[.int .i64 pos] 3)) (w.heap.size + 1) 3 #[.int .i64 pos] from by
    have := Blk.new (w.alloc o) 3 #[.int .i64 pos]
    rwa [alloc_size] at this)
  go_enter Tryd.func47, Tryd.ntmps47
  go_wp2_with fail
  go_returns
  exact ⟨_, rfl, ⟨some ⟨w.heap.size + 1, 0, none⟩, 1, rfl, rdl_one (cell_new1 w _ _ _ _), (fun h => by cases h), fun b o t h => by cases h; exact ⟨Nat.le_succ _, _, HBK.out _⟩⟩, below2 _ _ _⟩
end Go.Proofs.YtpogngdddendiaaDoor
