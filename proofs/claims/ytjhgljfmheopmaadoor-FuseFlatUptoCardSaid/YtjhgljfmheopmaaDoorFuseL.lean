/- The walk over chapter 20's examples: they hold. What the package-level errors hold is a hypothesis. -/
import Derived.Test.YtjhgljfmheopmaaDoorFuseP
import Derived.Outline
set_option linter.unusedVariables false
set_option linter.unusedSimpArgs false
namespace Go.Proofs.YtjhgljfmheopmaaDoor
open Go.RowKit

/-- A call of one word. -/
def callT (s : List UInt8) : Tr := .mk 21 0 [] [.mk 1 0 s []]
def pipeT (ts : List Tr) : Tr := .mk 32 0 [] ts
def aT : Tr := callT [97]

theorem fuse_call (s : List UInt8) : fuseT (callT s) = callT s := by simp [callT, fuseT_mk, fuseTs_cons, fuseTs_nil]
theorem first_q : fuseT (pipeT [pipeT [aT, aT], aT]) = pipeT [aT, aT, aT] := by
  simp [pipeT, aT, callT, fuseT_mk, fuseTs_cons, fuseTs_nil, Tr.kind, Tr.kids]
theorem first_r : fuseT (pipeT [aT, pipeT [aT, aT]]) = pipeT [aT, aT, aT] := by
  simp [pipeT, aT, callT, fuseT_mk, fuseTs_cons, fuseTs_nil, Tr.kind, Tr.kids]
theorem small_flat {t : Tr} {n : Nat} (h : (flat t).length = n) (hn : n ≤ 3000 := by decide) : (flat t).length ≤ 4000000 ∧ (flat t).length ≤ 3000 := by omega
theorem ok_nodes {L : List Nd} (h : L.all (fun x => decide (x.s.length ≤ 4000000) && decide (x.k ≤ 9223372036854775807)) = true) : ∀ x ∈ L, NdOk x := by
  intro x hx
  have := List.all_eq_true.1 h x hx
  simpa [NdOk] using this

theorem pipes_v (v : Value) (L : List Nd) (w : World) (hv : SlRd w v L) (hL : L.length ≤ 4000000) : Calls Tryd.prog 34 #[v] w (Ret w (.int .i64 (L.countP fun x => x.kind == 32))) := by
  obtain ⟨A, c, rfl, h1, _⟩ := hv
  exact pipes_any A c L w h1 hL
theorem fpass_tree (v : Value) (t : Tr) (aN aT aM : Addr) (w : World) (hok : okT 30 false t = true) (hn : (flat t).length ≤ 3000) (hnd : ∀ x ∈ flat t, NdOk x) (hv : SlRd w v (flat t)) (hE : ErrW w aN aT aM) :
    Calls Tryd.prog 31 #[v] w (VRet (flat (fuseT t)) w) := by
  have h := fpass_any v (flat t) aN aT aM w (by omega) hnd hv hE
  rw [fpassL_tree hok hn] at h
  exact h.mono fun _ _ h => h.v

def pT : Tr := pipeT [aT, aT, aT]
def qT : Tr := pipeT [pipeT [aT, aT], aT]
def rT : Tr := pipeT [aT, pipeT [aT, aT]]

set_option maxRecDepth 100000 in
set_option maxHeartbeats 4000000 in
theorem first20_any (aN aT' aM : Addr) (w : World) (hE : ErrW w aN aT' aM) : Calls Tryd.prog 30 #[] w (Ret w (.bool true)) := by
  have PQ := Lib.hid (fun v W h1 h2 => fpass_tree v qT aN aT' aM W (by kernel_rfl) (of_decide_eq_true (by kernel_rfl)) (ok_nodes (by kernel_rfl)) h1 h2)
  have PR := Lib.hid (fun v W h1 h2 => fpass_tree v rT aN aT' aM W (by kernel_rfl) (of_decide_eq_true (by kernel_rfl)) (ok_nodes (by kernel_rfl)) h1 h2)
  rw [show fuseT qT = pT from first_q] at PQ
  rw [show fuseT rT = pT from first_r] at PR
  have SP := Lib.hid (fun va vb W h1 h2 => same_v va vb (flat pT) (flat pT) W h1 h2 (of_decide_eq_true (by kernel_rfl)) (of_decide_eq_true (by kernel_rfl)))
  rw [(sameL_iff (flat pT) (flat pT)).2 rfl] at SP
  have CQ := Lib.hid (fun v W h => pipes_v v (flat qT) W h (of_decide_eq_true (by kernel_rfl)))
  have CP := Lib.hid (fun v W h => pipes_v v (flat pT) W h (of_decide_eq_true (by kernel_rfl)))
  rw [show (flat qT).countP (fun x => x.kind == 32) = 2 by kernel_rfl] at CQ
  rw [show (flat pT).countP (fun x => x.kind == 32) = 1 by kernel_rfl] at CP
  go_enter Tryd.func30, Tryd.ntmps30
  go_wp2_with fail
  refine (litT_any [97] _).mono ?_
  rintro e w1 ⟨A1, n1, c1, rfl, o1, hb1⟩
  have s1 := o1.rd
  clear o1
  have hb := hb1
  go_wp2_with fail
  refine (newL_any 21 0 [] _ 1 1 [.mk 1 0 [97] []] _ (AllRd.one s1) rfl (of_decide_eq_true (by kernel_rfl))).mono ?_
  rintro e w2 ⟨A2, n2, c2, rfl, o2, hb2⟩
  have s2 := o2.rd
  clear o2
  replace hb := hb.trans (hb2.mono hb.size)
  clear s1 hb1 hb2
  replace s2 : SlRd w2 (.slice A2 n2 c2) (flat aT) := s2
  go_wp2_with fail
  refine (newL_any 32 0 [] _ 3 3 [aT, aT, aT] _ (AllRd.three s2 s2 s2) rfl (of_decide_eq_true (by kernel_rfl))).mono ?_
  rintro e w3 ⟨A3, n3, c3, rfl, o3, hb3⟩
  have s3 := o3.rd
  clear o3
  replace s2 := s2.below hb3
  replace hb := hb.trans (hb3.mono hb.size)
  clear hb3
  go_wp2_with fail
  refine (newL_any 32 0 [] _ 2 2 [aT, aT] _ (AllRd.two s2 s2) rfl (of_decide_eq_true (by kernel_rfl))).mono ?_
  rintro e w4 ⟨A4, n4, c4, rfl, o4, hb4⟩
  have s4 := o4.rd
  clear o4
  replace s2 := s2.below hb4
  replace s3 := s3.below hb4
  replace hb := hb.trans (hb4.mono hb.size)
  clear hb4
  go_wp2_with fail
  refine (newL_any 32 0 [] _ 2 2 [pipeT [aT, aT], aT] _ (AllRd.two s4 s2) rfl (of_decide_eq_true (by kernel_rfl))).mono ?_
  rintro e w5 ⟨A5, n5, c5, rfl, o5, hb5⟩
  have s5 := o5.rd
  clear o5
  replace s2 := s2.below hb5
  replace s3 := s3.below hb5
  replace hb := hb.trans (hb5.mono hb.size)
  clear s4 hb5
  go_wp2_with fail
  refine (newL_any 32 0 [] _ 2 2 [aT, aT] _ (AllRd.two s2 s2) rfl (of_decide_eq_true (by kernel_rfl))).mono ?_
  rintro e w6 ⟨A6, n6, c6, rfl, o6, hb6⟩
  have s6 := o6.rd
  clear o6
  replace s2 := s2.below hb6
  replace s3 := s3.below hb6
  replace s5 := s5.below hb6
  replace hb := hb.trans (hb6.mono hb.size)
  clear hb6
  go_wp2_with fail
  refine (newL_any 32 0 [] _ 2 2 [aT, pipeT [aT, aT]] _ (AllRd.two s2 s6) rfl (of_decide_eq_true (by kernel_rfl))).mono ?_
  rintro e w7 ⟨A7, n7, c7, rfl, o7, hb7⟩
  have s7 := o7.rd
  clear o7
  replace s3 := s3.below hb7
  replace s5 := s5.below hb7
  replace hb := hb.trans (hb7.mono hb.size)
  clear s2 s6 hb7
  go_wp2_with fail
  refine (PQ.out _ _ s5 (hE.below hb)).mono ?_
  rintro e w8 ⟨A8, n8, c8, rfl, o8, hb8⟩
  have s8 := o8.rd
  clear o8
  replace s3 := s3.below hb8
  replace s5 := s5.below hb8
  replace s7 := s7.below hb8
  replace hb := hb.trans (hb8.mono hb.size)
  clear hb8
  go_wp2_with fail
  refine (SP.out _ _ _ s8 s3).mono ?_
  rintro e w9 ⟨rfl, hb9⟩
  replace s3 := s3.below hb9
  replace s5 := s5.below hb9
  replace s7 := s7.below hb9
  replace hb := hb.trans (hb9.mono hb.size)
  clear hb9 s8
  go_wp2_with fail
  refine (PR.out _ _ s7 (hE.below hb)).mono ?_
  rintro e w10 ⟨A10, n10, c10, rfl, o10, hb10⟩
  have s10 := o10.rd
  clear o10
  replace s3 := s3.below hb10
  replace s5 := s5.below hb10
  replace hb := hb.trans (hb10.mono hb.size)
  clear hb10
  go_wp2_with fail
  refine (SP.out _ _ _ s10 s3).mono ?_
  rintro e w11 ⟨rfl, hb11⟩
  replace s3 := s3.below hb11
  replace s5 := s5.below hb11
  replace hb := hb.trans (hb11.mono hb.size)
  clear hb11 s10
  go_wp2_with fail
  refine (CQ.out _ _ s5).mono ?_
  rintro e w12 ⟨rfl, hb12⟩
  replace s3 := s3.below hb12
  replace hb := hb.trans (hb12.mono hb.size)
  clear hb12
  go_wp2_with fail
  refine (CP.out _ _ s3).mono ?_
  rintro e w13 ⟨rfl, hb13⟩
  replace hb := hb.trans (hb13.mono hb.size)
  go_wp2_with fail
  go_ret
  exact ⟨rfl, hb⟩
end Go.Proofs.YtjhgljfmheopmaaDoor
