/- The walk over patoisref.Nodes: a copy in memory of its own. A bound on the length. -/
import Derived.Test.YthmeonimianoeaaDoorCoreV
import Derived.Outline
set_option linter.unusedVariables false
set_option linter.unusedSimpArgs false
namespace Go.Proofs.YthmeonimianoeaaDoor
open Go.RowKit

set_option maxHeartbeats 2000000 in
theorem nodes_any (v : Value) (L : List Nd) (w : World) (hv : SlRd w v L) (hL : L.length ≤ 2000000) : Calls Tryd.prog 16 #[v] w (VRet L w) := by
  obtain ⟨A, cp, rfl, hrd, _⟩ := hv
  obtain ⟨i0, hi, hz0, hz1, hz2⟩ := info_parts infoNode
  obtain ⟨m, hm⟩ : ∃ m, m = L.length := ⟨_, rfl⟩
  rw [← hm] at hL ⊢
  have HM := Lib.hid hm
  clear hm
  go_enter Tryd.func16, Tryd.ntmps16
  go_wp2_with (at_make; refine wpList_make_own w rfl _ _ _ rfl w.heap.size _ i0 _ 5 Tryd.underlying23 hi hz0 hz1 .i64 .i64 m m rfl rfl rfl (by rw [hz2]; omega) (by unfold maxLen; omega) (Nat.le_refl _) ?_; intro w1 ho1 hg1; have hb1 := (Below.refl w.heap.size w).grown hg1 (Nat.le_refl _) (fun k h => by cases h))
  go_loopw [3, 4] (fun v i wr => ∃ (k : Nat) (A' : Option Addr) (c' : Nat), k ≤ m ∧ i = .int .i64 k ∧ v = .slice A' k c' ∧ wr.ownsRow w.heap.size 40 5 (.slice A' k c') k ((L.take k).flatMap ndc) ∧ Below w.heap.size w wr) (fun _ i _ => m - (intOf i).toNat)
  case atStart => exact ⟨0, _, m, Nat.zero_le _, rfl, rfl, ho1, hb1⟩
  case round =>
    obtain ⟨k, A', c', hk, rfl, rfl, hown, hb⟩ := hrel
    by_cases hlt : k < m
    · have hlt' : k < L.length := by rw [← HM.out]; exact hlt
      obtain ⟨b, o, rfl, _, hc⟩ := (hrd.below hb) k hlt'
      have HS := Lib.hid (show (L.take (k + 1)).flatMap ndc = (L.take k).flatMap ndc ++ ndc L[k] by
        rw [List.take_succ_eq_append_getElem hlt', List.flatMap_append]; simp)
      obtain ⟨x, hx⟩ : ∃ x, x = L[k] := ⟨_, rfl⟩
      rw [← hx] at hc HS
      have h0 := hc 0 _ rfl
      have h1 := hc 1 _ rfl
      have h2 := hc 2 _ rfl
      have h3 := hc 3 _ rfl
      have h4 := hc 4 _ rfl
      simp only [Nat.add_zero] at h0
      clear hc hx hlt' ho1
      go_wp2_with (at_builtin; refine wpList_push rfl _ _ _ rfl Tryd.underlying23 hi hz0 hz1 hz2 rfl (by decide) hown rfl rfl rfl (by simp [Value.oneCell']) (by omega) (by decide) hb.size ?_; intro A2 c2 w2 hown2 hb2 hoo2)
      go_roundw
      case rel => exact ⟨k + 1, A2, c2, by omega, by go_num, rfl, by rw [HS.out]; exact hown2, hb.trans hb2⟩
      case measure => simp [intOf]; omega
    · obtain rfl : k = m := by omega
      have HS := Lib.hid (show L.take k = L by rw [HM.out, List.take_length])
      go_wp2_with fail
      go_ret
      exact ⟨_, _, _, rfl, ⟨A', c', by rw [HM.out], by rw [HS.out] at hown; rw [← HM.out]; exact hown⟩, hb⟩
end Go.Proofs.YthmeonimianoeaaDoor
