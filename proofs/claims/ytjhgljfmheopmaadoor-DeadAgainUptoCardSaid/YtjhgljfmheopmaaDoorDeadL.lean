/- The walk over chapter 18's examples: they hold. What the package-level errors hold is a hypothesis. -/
import Derived.Test.YtjhgljfmheopmaaDoorDeadW5
import Derived.Outline
set_option linter.unusedVariables false
set_option linter.unusedSimpArgs false
namespace Go.Proofs.YtjhgljfmheopmaaDoor
open Go.RowKit

def cA : Tr := .mk 21 0 [] [.mk 1 0 [97] []]
def cB : Tr := .mk 21 0 [] [.mk 1 0 [98] []]
theorem ok_nodes18 {L : List Nd} (h : L.all (fun x => decide (x.s.length ≤ 4000000) && decide (x.k ≤ 9223372036854775807)) = true) : ∀ x ∈ L, NdOk x := by
  intro x hx
  have := List.all_eq_true.1 h x hx
  simpa [NdOk] using this
theorem dpass_tree (v : Value) (t : Tr) (aN aT aM : Addr) (w : World) (hok : okT 30 false t = true) (hn : (flat t).length ≤ 3000) (hnd : ∀ x ∈ flat t, NdOk x) (hv : SlRd w v (flat t)) (hE : ErrW w aN aT aM) :
    Calls Tryd.prog 36 #[v] w (VRet (flat (wholeT t)) w) := by
  have h := dpass_any v (flat t) aN aT aM w (by omega) hnd hv hE
  rw [dpassL_tree hok hn] at h
  exact h.mono fun _ _ h => h.v
def pI : Tr := .mk 23 0 [] [nopT, .mk 23 0 [] [cA, cB]]
def pO : Tr := .mk 23 0 [] [cA, cB]
def qI : Tr := .mk 24 0 [] [.mk 27 0 [] [cA], cB, nopT]
def qO : Tr := .mk 24 0 [] [cA, nopT, cB]
def hI : Tr := .mk 34 0 [] [.mk 1 0 [120] [], nopT]

set_option maxRecDepth 100000 in
set_option maxHeartbeats 4000000 in
theorem first18_any (aN aT' aM : Addr) (w : World) (hE : ErrW w aN aT' aM) : Calls Tryd.prog 35 #[] w (Ret w (.bool true)) := by
  have PP := Lib.hid (fun v W h1 h2 => dpass_tree v pI aN aT' aM W (by kernel_rfl) (of_decide_eq_true (by kernel_rfl)) (ok_nodes18 (by kernel_rfl)) h1 h2)
  have PQ := Lib.hid (fun v W h1 h2 => dpass_tree v qI aN aT' aM W (by kernel_rfl) (of_decide_eq_true (by kernel_rfl)) (ok_nodes18 (by kernel_rfl)) h1 h2)
  have PH := Lib.hid (fun v W h1 h2 => dpass_tree v hI aN aT' aM W (by kernel_rfl) (of_decide_eq_true (by kernel_rfl)) (ok_nodes18 (by kernel_rfl)) h1 h2)
  rw [show wholeT pI = pO by kernel_rfl] at PP
  rw [show wholeT qI = qO by kernel_rfl] at PQ
  rw [show wholeT hI = nopT by kernel_rfl] at PH
  have SP := Lib.hid (fun va vb W h1 h2 => same_v va vb (flat pO) (flat pO) W h1 h2 (of_decide_eq_true (by kernel_rfl)) (of_decide_eq_true (by kernel_rfl)))
  rw [(sameL_iff (flat pO) (flat pO)).2 rfl] at SP
  have SQ := Lib.hid (fun va vb W h1 h2 => same_v va vb (flat qO) (flat qO) W h1 h2 (of_decide_eq_true (by kernel_rfl)) (of_decide_eq_true (by kernel_rfl)))
  rw [(sameL_iff (flat qO) (flat qO)).2 rfl] at SQ
  have SN := Lib.hid (fun va vb W h1 h2 => same_v va vb (flat nopT) (flat nopT) W h1 h2 (of_decide_eq_true (by kernel_rfl)) (of_decide_eq_true (by kernel_rfl)))
  rw [(sameL_iff (flat nopT) (flat nopT)).2 rfl] at SN
  have SI := Lib.hid (fun v W h => silent_v v (.mk 1 0 [120] []) W h (of_decide_eq_true (by kernel_rfl)))
  rw [show silT (.mk 1 0 [120] []) = true by kernel_rfl] at SI
  go_enter Tryd.func35, Tryd.ntmps35
  go_wp2_with fail
  refine (newT_any 20 0 [] none 0 0 [] _ (KdRd.nil _ _) rfl (of_decide_eq_true (by kernel_rfl))).mono ?_
  rintro e w1 ⟨A1, n1, c1, rfl, o1, hb⟩
  have s1 : SlRd w1 (.slice A1 n1 c1) (flat nopT) := o1.rd
  clear o1
  go_wp2_with fail
  refine (litT_any [97] _).mono ?_
  rintro e w2 ⟨A2, n2, c2, rfl, o2, hb2⟩
  have s2 := o2.rd
  clear o2
  replace s1 := s1.below hb2
  replace hb := hb.trans (hb2.mono hb.size)
  clear hb2
  go_wp2_with fail
  refine (newL_any 21 0 [] _ 1 1 [.mk 1 0 [97] []] _ (AllRd.one s2) rfl (of_decide_eq_true (by kernel_rfl))).mono ?_
  rintro e w3 ⟨A3, n3, c3, rfl, o3, hb3⟩
  have s3 := o3.rd
  clear o3
  replace s1 := s1.below hb3
  replace s2 := s2.below hb3
  replace hb := hb.trans (hb3.mono hb.size)
  clear s2 hb3
  replace s3 : SlRd w3 (.slice A3 n3 c3) (flat cA) := s3
  go_wp2_with fail
  refine (litT_any [98] _).mono ?_
  rintro e w4 ⟨A4, n4, c4, rfl, o4, hb4⟩
  have s4 := o4.rd
  clear o4
  replace s1 := s1.below hb4
  replace s3 := s3.below hb4
  replace hb := hb.trans (hb4.mono hb.size)
  clear hb4
  go_wp2_with fail
  refine (newL_any 21 0 [] _ 1 1 [.mk 1 0 [98] []] _ (AllRd.one s4) rfl (of_decide_eq_true (by kernel_rfl))).mono ?_
  rintro e w5 ⟨A5, n5, c5, rfl, o5, hb5⟩
  have s5 := o5.rd
  clear o5
  replace s1 := s1.below hb5
  replace s3 := s3.below hb5
  replace s4 := s4.below hb5
  replace hb := hb.trans (hb5.mono hb.size)
  clear s4 hb5
  replace s5 : SlRd w5 (.slice A5 n5 c5) (flat cB) := s5
  go_wp2_with fail
  refine (newL_any 23 0 [] _ 2 2 [cA, cB] _ (AllRd.two s3 s5) rfl (of_decide_eq_true (by kernel_rfl))).mono ?_
  rintro e w6 ⟨A6, n6, c6, rfl, o6, hb6⟩
  have s6 := o6.rd
  clear o6
  replace s1 := s1.below hb6
  replace s3 := s3.below hb6
  replace s5 := s5.below hb6
  replace hb := hb.trans (hb6.mono hb.size)
  clear  hb6
  go_wp2_with fail
  refine (newL_any 23 0 [] _ 2 2 [nopT, .mk 23 0 [] [cA, cB]] _ (AllRd.two s1 s6) rfl (of_decide_eq_true (by kernel_rfl))).mono ?_
  rintro e w7 ⟨A7, n7, c7, rfl, o7, hb7⟩
  have s7 := o7.rd
  clear o7
  replace s1 := s1.below hb7
  replace s3 := s3.below hb7
  replace s5 := s5.below hb7
  replace s6 := s6.below hb7
  replace hb := hb.trans (hb7.mono hb.size)
  clear s6 hb7
  go_wp2_with fail
  refine (PP.out _ _ s7 (hE.below hb)).mono ?_
  rintro e w8 ⟨A8, n8, c8, rfl, o8, hb8⟩
  have s8 := o8.rd
  clear o8
  replace s1 := s1.below hb8
  replace s3 := s3.below hb8
  replace s5 := s5.below hb8
  replace s7 := s7.below hb8
  replace hb := hb.trans (hb8.mono hb.size)
  clear hb8
  clear s7
  go_wp2_with fail
  refine (newL_any 27 0 [] _ 1 1 [cA] _ (AllRd.one s3) rfl (of_decide_eq_true (by kernel_rfl))).mono ?_
  rintro e w9 ⟨A9, n9, c9, rfl, o9, hb9⟩
  have s9 := o9.rd
  clear o9
  replace s1 := s1.below hb9
  replace s3 := s3.below hb9
  replace s5 := s5.below hb9
  replace s8 := s8.below hb9
  replace hb := hb.trans (hb9.mono hb.size)
  clear  hb9
  go_wp2_with fail
  refine (newL_any 24 0 [] _ 3 3 [.mk 27 0 [] [cA], cB, nopT] _ (AllRd.three s9 s5 s1) rfl (of_decide_eq_true (by kernel_rfl))).mono ?_
  rintro e w10 ⟨A10, n10, c10, rfl, o10, hb10⟩
  have s10 := o10.rd
  clear o10
  replace s1 := s1.below hb10
  replace s3 := s3.below hb10
  replace s5 := s5.below hb10
  replace s8 := s8.below hb10
  replace s9 := s9.below hb10
  replace hb := hb.trans (hb10.mono hb.size)
  clear s9 hb10
  go_wp2_with fail
  refine (PQ.out _ _ s10 (hE.below hb)).mono ?_
  rintro e w11 ⟨A11, n11, c11, rfl, o11, hb11⟩
  have s11 := o11.rd
  clear o11
  replace s1 := s1.below hb11
  replace s3 := s3.below hb11
  replace s5 := s5.below hb11
  replace s8 := s8.below hb11
  replace s10 := s10.below hb11
  replace hb := hb.trans (hb11.mono hb.size)
  clear hb11
  clear s10
  go_wp2_with fail
  refine (newL_any 23 0 [] _ 2 2 [cA, cB] _ (AllRd.two s3 s5) rfl (of_decide_eq_true (by kernel_rfl))).mono ?_
  rintro e w12 ⟨A12, n12, c12, rfl, o12, hb12⟩
  have s12 := o12.rd
  clear o12
  replace s1 := s1.below hb12
  replace s3 := s3.below hb12
  replace s5 := s5.below hb12
  replace s8 := s8.below hb12
  replace s11 := s11.below hb12
  replace hb := hb.trans (hb12.mono hb.size)
  clear  hb12
  go_wp2_with fail
  refine (SP.out _ _ _ s8 s12).mono ?_
  rintro e w13 ⟨rfl, hb13⟩
  replace s1 := s1.below hb13
  replace s3 := s3.below hb13
  replace s5 := s5.below hb13
  replace s8 := s8.below hb13
  replace s11 := s11.below hb13
  replace s12 := s12.below hb13
  replace hb := hb.trans (hb13.mono hb.size)
  clear hb13
  clear s8 s12
  go_wp2_with fail
  refine (newL_any 24 0 [] _ 3 3 [cA, nopT, cB] _ (AllRd.three s3 s1 s5) rfl (of_decide_eq_true (by kernel_rfl))).mono ?_
  rintro e w14 ⟨A14, n14, c14, rfl, o14, hb14⟩
  have s14 := o14.rd
  clear o14
  replace s1 := s1.below hb14
  replace s3 := s3.below hb14
  replace s5 := s5.below hb14
  replace s11 := s11.below hb14
  replace hb := hb.trans (hb14.mono hb.size)
  clear  hb14
  go_wp2_with fail
  refine (SQ.out _ _ _ s11 s14).mono ?_
  rintro e w15 ⟨rfl, hb15⟩
  replace s1 := s1.below hb15
  replace s3 := s3.below hb15
  replace s5 := s5.below hb15
  replace s11 := s11.below hb15
  replace s14 := s14.below hb15
  replace hb := hb.trans (hb15.mono hb.size)
  clear hb15
  clear s11 s14 s3 s5
  go_wp2_with fail
  refine (litT_any [120] _).mono ?_
  rintro e w16 ⟨A16, n16, c16, rfl, o16, hb16⟩
  have s16 := o16.rd
  clear o16
  replace s1 := s1.below hb16
  replace hb := hb.trans (hb16.mono hb.size)
  clear hb16
  go_wp2_with fail
  refine (newL_any 34 0 [] _ 2 2 [.mk 1 0 [120] [], nopT] _ (AllRd.two s16 s1) rfl (of_decide_eq_true (by kernel_rfl))).mono ?_
  rintro e w17 ⟨A17, n17, c17, rfl, o17, hb17⟩
  have s17 := o17.rd
  clear o17
  replace s1 := s1.below hb17
  replace s16 := s16.below hb17
  replace hb := hb.trans (hb17.mono hb.size)
  clear s16 hb17
  go_wp2_with fail
  refine (PH.out _ _ s17 (hE.below hb)).mono ?_
  rintro e w18 ⟨A18, n18, c18, rfl, o18, hb18⟩
  have s18 := o18.rd
  clear o18
  replace s1 := s1.below hb18
  replace s17 := s17.below hb18
  replace hb := hb.trans (hb18.mono hb.size)
  clear hb18
  clear s17
  go_wp2_with fail
  refine (SN.out _ _ _ s18 s1).mono ?_
  rintro e w19 ⟨rfl, hb19⟩
  replace s1 := s1.below hb19
  replace s18 := s18.below hb19
  replace hb := hb.trans (hb19.mono hb.size)
  clear hb19
  clear s18 s1
  go_wp2_with fail
  refine (litT_any [120] _).mono ?_
  rintro e w20 ⟨A20, n20, c20, rfl, o20, hb20⟩
  have s20 := o20.rd
  clear o20
  replace hb := hb.trans (hb20.mono hb.size)
  clear hb20
  go_wp2_with fail
  refine (SI.out _ _ s20).mono ?_
  rintro e w21 ⟨rfl, hb21⟩
  replace s20 := s20.below hb21
  replace hb := hb.trans (hb21.mono hb.size)
  clear hb21
  clear s20
  go_wp2_with fail
  go_ret
  exact ⟨rfl, hb⟩
end Go.Proofs.YtjhgljfmheopmaaDoor
