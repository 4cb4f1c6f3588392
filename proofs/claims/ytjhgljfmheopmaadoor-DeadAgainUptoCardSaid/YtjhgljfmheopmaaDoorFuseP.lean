/- The walk over fuse.Pass: what it answers is a function of the nodes alone, in memory of its own. Bounds on the lengths. -/
import Derived.Test.YtjhgljfmheopmaaDoorFuseW
import Derived.Outline
set_option linter.unusedVariables false
set_option linter.unusedSimpArgs false
namespace Go.Proofs.YtjhgljfmheopmaaDoor
open Go.RowKit

open Classical in
/-- The passed program. -/
noncomputable def fpassL (L : List Nd) : List Nd := if h : manyB L = false ∧ ∃ t, okT 30 false t = true ∧ flat t = L then flat (fuseT h.2.choose) else L
theorem fpassL_tree {t : Tr} (hok : okT 30 false t = true) (hn : (flat t).length ≤ 3000) : fpassL (flat t) = flat (fuseT t) := by
  have hm : manyB (flat t) = false := by
    have := flat_pos t
    simp only [manyB, Bool.or_eq_false_iff, beq_eq_false_iff_ne, decide_eq_false_iff_not]
    omega
  unfold fpassL
  have h : manyB (flat t) = false ∧ ∃ t', okT 30 false t' = true ∧ flat t' = flat t := ⟨hm, t, hok, rfl⟩
  rw [dif_pos h, flat_inj _ h.2.choose t (Nat.le_refl _) h.2.choose_spec.2]
theorem fpassL_bad {L : List Nd} (h : manyB L = true ∨ checkP L ≠ none) : fpassL L = L := by
  unfold fpassL
  rw [dif_neg]
  rintro ⟨h1, h2⟩
  rcases h with h | h
  · rw [h] at h1; cases h1
  · refine h ((check_tree L ?_).2 h2)
    intro h0
    rw [manyB, h0] at h1
    simp at h1

theorem fpassL_len (L : List Nd) : (fpassL L).length ≤ L.length := by
  unfold fpassL
  split
  · rename_i h
    have h1 := fuseT_le h.2.choose
    rw [h.2.choose_spec.2] at h1
    exact h1
  · exact Nat.le_refl _

set_option maxHeartbeats 1000000 in
theorem fpass_any (v : Value) (L : List Nd) (aN aT aM : Addr) (w : World) (hL : L.length ≤ 4000000) (hok : ∀ x ∈ L, NdOk x) (hv : SlRd w v L) (hE : ErrW w aN aT aM) :
    Calls Tryd.prog 31 #[v] w (NodesRet (fpassL L) w) := by
  have HB := Lib.hid (fun h => fpassL_bad (L := L) h)
  have HV := Lib.hid hv
  have HCL := Lib.hid (fun W h => clone_any v L W h hL)
  have HCK := Lib.hid (show Calls Tryd.prog 18 #[v] w (CheckRet L aN aT aM w) by
    obtain ⟨A, c, rfl, hrd, _⟩ := hv
    exact check_any A c L aN aT aM w hL hok hrd hE)
  clear hv
  go_enter Tryd.func31, Tryd.ntmps31
  go_wp2_with fail
  refine HCK.out.mono ?_
  rintro e w1 ⟨v1, rfl, hv1, hb1⟩
  have HV1 := Lib.hid (HV.out.below hb1)
  cases hm : manyB L
  case true =>
    rw [hm, if_pos rfl] at hv1
    subst hv1
    have HF := Lib.hid (HB.out (.inl hm))
    clear hm
    go_wp2_with fail
    refine (HCL.out _ HV1.out).mono ?_
    rintro e w2 ⟨A2, c2, rfl, ho2, hb2⟩
    go_wp2_with fail
    go_ret
    exact ⟨A2, c2, ret_slice (by rw [HF.out]), by rw [HF.out]; exact own_mono ho2 hb1.size, hb1.trans (hb2.mono hb1.size)⟩
  case false =>
  rw [hm, if_neg Bool.noConfusion] at hv1
  cases hc : checkP L with
  | some z =>
    obtain ⟨i, nb⟩ := z
    rw [hc] at hv1
    obtain ⟨g, rfl, _⟩ := hv1
    have HF := Lib.hid (HB.out (.inr (by rw [hc]; simp)))
    clear hm hc
    go_wp2_with fail
    refine (HCL.out _ HV1.out).mono ?_
    rintro e w2 ⟨A2, c2, rfl, ho2, hb2⟩
    go_wp2_with fail
    go_ret
    exact ⟨A2, c2, ret_slice (by rw [HF.out]), by rw [HF.out]; exact own_mono ho2 hb1.size, hb1.trans (hb2.mono hb1.size)⟩
  | none =>
    rw [hc] at hv1
    obtain rfl : v1 = Value.nilIface := hv1
    obtain ⟨h0, h3⟩ : L.length ≠ 0 ∧ L.length ≤ 3000 := by
      simp only [manyB, Bool.or_eq_false_iff, beq_eq_false_iff_ne, decide_eq_false_iff_not] at hm
      omega
    obtain ⟨t, ht1, ht2⟩ := (check_tree L h0).1 hc
    have HF := Lib.hid (show fpassL L = flat (fuseT t) by rw [← ht2]; exact fpassL_tree ht1 (by rw [ht2]; exact h3))
    have HW := Lib.hid (show Calls Tryd.prog 50 #[v] w1 (NodesRet (flat (fuseT t)) w1) from fwhole_any 3000 t v w1 (by rw [ht2]; exact h3) (by decide) (by rw [ht2]; exact HV1.out))
    clear hm hc ht1 ht2 h0 h3
    go_wp2_with fail
    refine HW.out.mono ?_
    rintro e w2 ⟨A2, c2, rfl, ho2, hb2⟩
    go_wp2_with fail
    go_ret
    exact ⟨A2, c2, ret_slice (by rw [HF.out]), by rw [HF.out]; exact own_mono ho2 hb1.size, hb1.trans (hb2.mono hb1.size)⟩
end Go.Proofs.YtjhgljfmheopmaaDoor
