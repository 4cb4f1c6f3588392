/- The walk over core.Seq: over a row of slices that read as trees laid flat. Bounds on the lengths. -/
import Derived.Test.YthmeonimianoeaaDoorCoreL
import Derived.Outline
set_option linter.unusedVariables false
set_option linter.unusedSimpArgs false
namespace Go.Proofs.YthmeonimianoeaaDoor
open Go.RowKit

def seqT : List Tr → Tr
  | [] => nopT
  | [t] => t
  | t :: u :: ts => .mk 23 0 [] (t :: u :: ts)
theorem seqT_many {ts : List Tr} (h : 2 ≤ ts.length) : seqT ts = .mk 23 0 [] ts := by
  match ts, h with
  | t :: u :: ts, _ => rfl

set_option maxHeartbeats 1000000 in
theorem seq_any (A : Option Addr) (c m : Nat) (ts : List Tr) (w : World) (h : KdRd w A (ts.map flat)) (hm : m = ts.length) (ht : (flatAll ts).length ≤ 4000000) :
    Calls Tryd.prog 11 #[.slice A m c] w (VRet (flat (seqT ts)) w) := by
  rcases ts with _ | ⟨t, _ | ⟨u, ts⟩⟩
  · obtain rfl : m = 0 := hm
    rw [show seqT [] = Tr.mk 20 0 [] [] from rfl]
    go_enter Tryd.func11, Tryd.ntmps11
    go_wp2_with fail
    refine (newT_any 20 0 [] none 0 0 [] _ (KdRd.nil _ _) rfl (of_decide_eq_true (by kernel_rfl))).mono ?_
    rintro e w1 ⟨A1, n1, c1, rfl, h1, h2⟩
    have H1 := Lib.hid h1
    clear h1
    go_wp2_with fail
    go_ret
    exact ⟨A1, n1, c1, rfl, H1.out, h2⟩
  · obtain rfl : m = 1 := hm
    rw [show seqT [t] = t from rfl]
    obtain ⟨b, o, v, rfl, hb, hc, hs⟩ := h.at_ (k := 0) (by simp)
    simp only [List.getElem_map, List.getElem_cons_zero, Nat.add_zero] at hc hs
    rw [flatAll_cons, flatAll_nil, List.append_nil] at ht
    have HC := Lib.hid (clone_any v (flat t) w hs ht)
    obtain ⟨A1, c1, rfl, _⟩ := hs
    go_enter Tryd.func11, Tryd.ntmps11
    go_wp2_with fail
    refine HC.out.mono ?_
    rintro e w1 h1
    obtain ⟨A1, n1, c1, rfl, h1, h2⟩ := h1.v
    have H1 := Lib.hid h1
    clear h1
    go_wp2_with fail
    go_ret
    exact ⟨A1, n1, c1, rfl, H1.out, h2⟩
  · rw [show seqT (t :: u :: ts) = Tr.mk 23 0 [] (t :: u :: ts) from rfl]
    have h0 : ((m : Int) == 0) = false := by rw [beq_eq_false_iff_ne]; simp at hm; omega
    have h1 : ((m : Int) == 1) = false := by rw [beq_eq_false_iff_ne]; simp at hm; omega
    have HC := Lib.hid (newT_any 23 0 [] A c m (t :: u :: ts) w h hm ht)
    clear h hm ht
    go_enter Tryd.func11, Tryd.ntmps11
    go_wp2_with fail
    refine HC.out.mono ?_
    rintro e w1 ⟨A1, n1, c1, rfl, h1, h2⟩
    have H1 := Lib.hid h1
    clear h1
    go_wp2_with fail
    go_ret
    exact ⟨A1, n1, c1, rfl, H1.out, h2⟩
end Go.Proofs.YthmeonimianoeaaDoor
