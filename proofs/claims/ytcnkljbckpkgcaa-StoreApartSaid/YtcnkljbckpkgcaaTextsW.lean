/- The walk over patoisref.SameTexts: it says whether two rows of texts are the same. Each row is shorter than a million. -/
import Derived.Test.YtcnkljbckpkgcaaStrc
import Derived.Test.YtcnkljbckpkgcaaLater
import Derived.WalkKit
import Derived.WalkSpells
import Derived.WalkLawsBesides
import Derived.Lib.Hide
import Derived.Deep.LoopGhost
import Derived.Deep.DeepFit
import Derived.Lib.Strings
import Derived.Outline
set_option linter.unusedVariables false
set_option linter.unusedSimpArgs false
namespace Go.Proofs.Ytcnkljbckpkgcaa
open Go.RowKit

set_option maxHeartbeats 1000000 in
theorem sameTexts_any (A B : Option Addr) (ca cb : Nat) (la lb : List (List UInt8)) (w : World) (ha : RdL w 1 strc A la) (hb : RdL w 1 strc B lb) (hla : la.length ≤ 1000000) (hlb : lb.length ≤ 1000000) :
    Calls Try.prog 19 #[.slice A la.length ca, .slice B lb.length cb] w (Ret w (.bool (decide (la = lb)))) := by
  by_cases hl : la.length = lb.length
  · have HL := Lib.hid hl
    have hne : ((la.length : Int) != (lb.length : Int)) = false := by simp; omega
    clear hl
    go_enter Try.func19, Try.ntmps19
    go_wp2_with fail
    go_loopw [5] (fun i wr => ∃ k : Nat, k ≤ la.length ∧ i = .int .i64 k ∧ Below w.heap.size w wr ∧ Hid (la.take k = lb.take k)) (fun i _ => la.length - (intOf i).toNat)
    case atStart => exact ⟨0, Nat.zero_le _, rfl, Below.refl _ _, by simp [Hid]⟩
    case round =>
      obtain ⟨k, hk, rfl, hbw, H⟩ := hrel
      by_cases hlt : k < la.length
      · have hlt2 : k < lb.length := by rw [← HL.out]; exact hlt
        obtain ⟨b1, o1, rfl, _, hc1⟩ := (ha.below hbw) k hlt
        obtain ⟨b2, o2, rfl, _, hc2⟩ := (hb.below hbw) k hlt2
        have c1 := hc1 0 _ rfl
        have c2 := hc2 0 _ rfl
        clear hc1 hc2
        simp only [Nat.mul_one, Nat.add_zero] at c1 c2
        obtain ⟨x, hx⟩ : ∃ x, x = la[k] := ⟨_, rfl⟩
        obtain ⟨y, hy⟩ : ∃ y, y = lb[k] := ⟨_, rfl⟩
        rw [← hx] at c1
        rw [← hy] at c2
        have HX := Lib.hid hx
        have HY := Lib.hid hy
        clear hx hy
        have l1 := Later.cell c1
        have l2 := Later.cell c2
        go_wp2_with fail
        refine wp_region_later (by kernel_rfl) (by kernel_rfl) ?_
        repeat (go_big_quiet_step (fail))
        refine wpQuiet_nil ?_
        rintro w2 ⟨⟨_, hb2⟩, rfl⟩
        have hbw2 := hbw.trans (hb2.mono hbw.size)
        clear l1 l2 c1 c2 hb2
        by_cases hxy : x = y
        · have hq : (x == y) = true := by simpa using hxy
          have HE := Lib.hid (show la.take (k + 1) = lb.take (k + 1) by
            rw [List.take_succ_eq_append_getElem hlt, List.take_succ_eq_append_getElem hlt2, H.out, ← HX.out, ← HY.out, hxy])
          clear hxy H
          go_wp2_with fail
          go_roundw
          case rel => exact ⟨k + 1, by omega, by go_num, hbw2, HE⟩
          case measure => simp [intOf]; omega
        · have hq : (x == y) = false := by simpa using hxy
          have HE := Lib.hid (show decide (la = lb) = false by
            rw [decide_eq_false_iff_not]; intro h; subst h; exact hxy (HX.out.trans HY.out.symm))
          clear hxy H
          go_wp2_with fail
          go_ret
          exact ⟨by rw [HE.out]; rfl, hbw2⟩
      · have HE := Lib.hid (show decide (la = lb) = true by
          rw [decide_eq_true_eq]
          have h := H.out
          rwa [List.take_of_length_le (by omega), List.take_of_length_le (by rw [← HL.out]; omega)] at h)
        clear H
        go_wp2_with fail
        go_ret
        exact ⟨by rw [HE.out]; rfl, hbw⟩
  · have hne : ((la.length : Int) != (lb.length : Int)) = true := by simp; omega
    have HE := Lib.hid (show decide (la = lb) = false by
      rw [decide_eq_false_iff_not]; intro h; subst h; exact hl rfl)
    clear hl
    go_enter Try.func19, Try.ntmps19
    go_wp2_with fail
    go_ret
    exact ⟨by rw [HE.out]; rfl, Below.refl _ _⟩

end Go.Proofs.Ytcnkljbckpkgcaa
