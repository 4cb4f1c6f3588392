/- The walk over chapter 19's examples: they hold. What the package-level errors hold is a hypothesis. -/
import Derived.Test.YtclifaehbdeldaaDoorInlW3
import Derived.Test.YtclifaehbdeldaaDoorInlS
import Derived.Test.YtclifaehbdeldaaDoorSameW
import Derived.Outline
set_option linter.unusedVariables false
set_option linter.unusedSimpArgs false
namespace Go.Proofs.YtclifaehbdeldaaDoor
open Go.RowKit Go.Sort

def echT : Tr := .mk 21 0 [] [.mk 1 0 echoS [], .mk 2 0 [42] []]
def exP : Tr := .mk 23 0 [] [.mk 31 0 [102] [echT], .mk 21 0 [] [.mk 1 0 [102] [], .mk 1 0 [97] []]]
def exQ : Tr := .mk 23 0 [] [.mk 31 0 [102] [echT], .mk 37 0 [] [.mk 1 0 [97] [], echT]]
theorem ex_pass : passI exP = exQ := by kernel_rfl
theorem ex_own : (ownF (flat exP) exP.kids).map Tr.str = [[102]] := by kernel_rfl
theorem ok_nodes' {L : List Nd} (h : L.all (fun x => decide (x.s.length ≤ 4000000) && decide (x.k ≤ 9223372036854775807)) = true) : ∀ x ∈ L, NdOk x := by
  intro x hx
  have := List.all_eq_true.1 h x hx
  simpa [NdOk] using this
theorem ipass_tree (v : Value) (t : Tr) (aN aT aM : Addr) (w : World) (hok : okT 30 false t = true) (hn : (flat t).length ≤ 3000) (hnd : ∀ x ∈ flat t, NdOk x) (hv : SlRd w v (flat t)) (hE : ErrW w aN aT aM) :
    Calls Tryd.prog 33 #[v] w (VRet (flat (passI t)) w) := by
  have h := ipass_any v (flat t) aN aT aM w (by omega) hnd hv hE
  unfold ipassL at h
  rw [theT_tree hok hn] at h
  simp only at h
  rw [passB_eq hok] at h
  exact h.mono fun _ _ h => h.v
/-- The names that are known are those of the functions of a name of their own. -/
theorem names_perm {t : Tr} (hok : okT 30 false t = true) (hn : (flat t).length ≤ 3000) (hk : (t.kind == 23 && !((flat t).any fun x => x.kind == 36)) = true) {ss : List (List UInt8)} (h1 : ss.Nodup) (h2 : ∀ s, s ∈ ss ↔ ((funcL (flat t)).1 s).isSome = true) :
    ss.Perm ((ownF (flat t) t.kids).map Tr.str) := by
  refine (List.perm_ext_iff_of_nodup h1 (own_nodup t)).2 fun s => ?_
  rw [h2]
  unfold funcL
  rw [theT_tree hok hn]
  simp only
  unfold funOf
  rw [any36, if_pos hk]
  simp only
  unfold bodyF
  rw [bodyL_some _ _ (fun x hx => by
    obtain ⟨c, hc⟩ := fun_kid hok x ((List.takeWhile_prefix _).subset hx) (leadF_kind hx)
    rw [hc]
    simp)]
  simp [ownF]
theorem most_any (w : World) : Calls Tryd.prog 40 #[] w fun e w' => e = .returned (.int .i64 24) ∧ w' = w := by
  go_enter Tryd.func40, Tryd.ntmps40
  go_wp2_with fail
  go_ret
  exact ⟨rfl, rfl⟩

set_option maxRecDepth 100000 in
set_option maxHeartbeats 4000000 in
theorem first19_any (aN aT' aM : Addr) (w : World) (hE : ErrW w aN aT' aM) : Calls Tryd.prog 31 #[] w (Ret w (.bool true)) := by
  have PQ := Lib.hid (fun v W h1 h2 => ipass_tree v exP aN aT' aM W (by kernel_rfl) (of_decide_eq_true (by kernel_rfl)) (ok_nodes' (by kernel_rfl)) h1 h2)
  rw [ex_pass] at PQ
  have SP := Lib.hid (fun va vb W h1 h2 => same_v va vb (flat exQ) (flat exQ) W h1 h2 (of_decide_eq_true (by kernel_rfl)) (of_decide_eq_true (by kernel_rfl)))
  rw [(sameL_iff (flat exQ) (flat exQ)).2 rfl] at SP
  have KN := Lib.hid (show ∀ v W, SlRd W v (flat exP) → ErrW W aN aT' aM → Calls Tryd.prog 35 #[v] W (fun e W' => ∃ A c, e = .returned (.slice A 1 c) ∧ Below W.heap.size W W') from fun v W h1 h2 =>
    (known_any v (flat exP) aN aT' aM W (of_decide_eq_true (by kernel_rfl)) (ok_nodes' (by kernel_rfl)) h1 h2).mono fun e W' ⟨ss, A, c, q1, q2, q3, q4, q5⟩ => by
      have hp := names_perm (t := exP) (by kernel_rfl) (of_decide_eq_true (by kernel_rfl)) (by kernel_rfl) q1 q2
      rw [ex_own] at hp
      have hl : ss.length = 1 := hp.length_eq
      rw [hl] at q3
      exact ⟨A, c, q3, q5⟩)
  go_enter Tryd.func31, Tryd.ntmps31
  go_wp2_with fail
  refine (litT_any [101, 99, 104, 111] _).mono ?_
  rintro e w1 ⟨A1, n1, c1, rfl, o1, hb1⟩
  have s1 := o1.rd
  clear o1
  have hb := hb1
  go_wp2_with fail
  refine (newT_any 2 0 [42] none 0 0 [] _ (KdRd.nil _ _) rfl (of_decide_eq_true (by kernel_rfl))).mono ?_
  rintro e w2 ⟨A2, n2, c2, rfl, o2, hb2⟩
  have s2 := o2.rd
  clear o2
  replace s1 := s1.below hb2
  replace hb := hb.trans (hb2.mono hb.size)
  clear hb1 hb2
  go_wp2_with fail
  refine (newL_any 21 0 [] _ 2 2 [.mk 1 0 echoS [], .mk 2 0 [42] []] _ (AllRd.two s1 s2) rfl (of_decide_eq_true (by kernel_rfl))).mono ?_
  rintro e w3 ⟨A3, n3, c3, rfl, o3, hb3⟩
  have s3 := o3.rd
  clear o3
  replace hb := hb.trans (hb3.mono hb.size)
  clear s1 s2 hb3
  replace s3 : SlRd w3 (.slice A3 n3 c3) (flat echT) := s3
  go_wp2_with fail
  refine (newL_any 31 0 [102] _ 1 1 [echT] _ (AllRd.one s3) rfl (of_decide_eq_true (by kernel_rfl))).mono ?_
  rintro e w4 ⟨A4, n4, c4, rfl, o4, hb4⟩
  have s4 := o4.rd
  clear o4
  replace s3 := s3.below hb4
  replace hb := hb.trans (hb4.mono hb.size)
  clear hb4
  go_wp2_with fail
  refine (litT_any [102] _).mono ?_
  rintro e w5 ⟨A5, n5, c5, rfl, o5, hb5⟩
  have s5 := o5.rd
  clear o5
  replace s3 := s3.below hb5
  replace s4 := s4.below hb5
  replace hb := hb.trans (hb5.mono hb.size)
  clear hb5
  go_wp2_with fail
  refine (litT_any [97] _).mono ?_
  rintro e w6 ⟨A6, n6, c6, rfl, o6, hb6⟩
  have s6 := o6.rd
  clear o6
  replace s3 := s3.below hb6
  replace s4 := s4.below hb6
  replace s5 := s5.below hb6
  replace hb := hb.trans (hb6.mono hb.size)
  clear hb6
  go_wp2_with fail
  refine (newL_any 21 0 [] _ 2 2 [.mk 1 0 [102] [], .mk 1 0 [97] []] _ (AllRd.two s5 s6) rfl (of_decide_eq_true (by kernel_rfl))).mono ?_
  rintro e w7 ⟨A7, n7, c7, rfl, o7, hb7⟩
  have s7 := o7.rd
  clear o7
  replace s3 := s3.below hb7
  replace s4 := s4.below hb7
  replace hb := hb.trans (hb7.mono hb.size)
  clear hb7 s5 s6
  go_wp2_with fail
  refine (newL_any 23 0 [] _ 2 2 [.mk 31 0 [102] [echT], .mk 21 0 [] [.mk 1 0 [102] [], .mk 1 0 [97] []]] _ (AllRd.two s4 s7) rfl (of_decide_eq_true (by kernel_rfl))).mono ?_
  rintro e w8 ⟨A8, n8, c8, rfl, o8, hb8⟩
  have s8 := o8.rd
  clear o8
  replace s3 := s3.below hb8
  replace hb := hb.trans (hb8.mono hb.size)
  clear hb8 s4 s7
  replace s8 : SlRd w8 (.slice A8 n8 c8) (flat exP) := s8
  go_wp2_with fail
  refine (PQ.out _ _ s8 (hE.below hb)).mono ?_
  rintro e w9 ⟨A9, n9, c9, rfl, o9, hb9⟩
  have s9 := o9.rd
  clear o9
  replace s3 := s3.below hb9
  replace s8 := s8.below hb9
  replace hb := hb.trans (hb9.mono hb.size)
  clear hb9
  go_wp2_with fail
  refine (newL_any 31 0 [102] _ 1 1 [echT] _ (AllRd.one s3) rfl (of_decide_eq_true (by kernel_rfl))).mono ?_
  rintro e w10 ⟨A10, n10, c10, rfl, o10, hb10⟩
  have s10 := o10.rd
  clear o10
  replace s3 := s3.below hb10
  replace s8 := s8.below hb10
  replace s9 := s9.below hb10
  replace hb := hb.trans (hb10.mono hb.size)
  clear hb10
  go_wp2_with fail
  refine (litT_any [97] _).mono ?_
  rintro e w11 ⟨A11, n11, c11, rfl, o11, hb11⟩
  have s11 := o11.rd
  clear o11
  replace s3 := s3.below hb11
  replace s8 := s8.below hb11
  replace s9 := s9.below hb11
  replace s10 := s10.below hb11
  replace hb := hb.trans (hb11.mono hb.size)
  clear hb11
  go_wp2_with fail
  refine (newL_any 37 0 [] _ 2 2 [.mk 1 0 [97] [], echT] _ (AllRd.two s11 s3) rfl (of_decide_eq_true (by kernel_rfl))).mono ?_
  rintro e w12 ⟨A12, n12, c12, rfl, o12, hb12⟩
  have s12 := o12.rd
  clear o12
  replace s8 := s8.below hb12
  replace s9 := s9.below hb12
  replace s10 := s10.below hb12
  replace hb := hb.trans (hb12.mono hb.size)
  clear hb12 s3 s11
  go_wp2_with fail
  refine (newL_any 23 0 [] _ 2 2 [.mk 31 0 [102] [echT], .mk 37 0 [] [.mk 1 0 [97] [], echT]] _ (AllRd.two s10 s12) rfl (of_decide_eq_true (by kernel_rfl))).mono ?_
  rintro e w13 ⟨A13, n13, c13, rfl, o13, hb13⟩
  have s13 := o13.rd
  clear o13
  replace s8 := s8.below hb13
  replace s9 := s9.below hb13
  replace hb := hb.trans (hb13.mono hb.size)
  clear hb13 s10 s12
  replace s13 : SlRd w13 (.slice A13 n13 c13) (flat exQ) := s13
  go_wp2_with fail
  refine (SP.out _ _ _ s9 s13).mono ?_
  rintro e w14 ⟨rfl, hb14⟩
  replace s8 := s8.below hb14
  replace hb := hb.trans (hb14.mono hb.size)
  clear hb14 s9 s13
  go_wp2_with fail
  refine (KN.out _ _ s8 (hE.below hb)).mono ?_
  rintro e w15 ⟨A15, c15, rfl, hb15⟩
  replace hb := hb.trans (hb15.mono hb.size)
  clear hb15 s8
  go_wp2_with fail
  refine (most_any w15).mono ?_
  rintro e w16 ⟨rfl, rfl⟩
  go_wp2_with fail
  go_ret
  exact ⟨rfl, hb⟩
end Go.Proofs.YtclifaehbdeldaaDoor
