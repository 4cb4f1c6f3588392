/- The walks over consts.Pass, consts.Word at trees that may be; chapter 17's examples hold. What the package-level errors hold is a hypothesis. -/
import Derived.Test.YthmeonimianoeaaDoorConW8
import Derived.Test.YthmeonimianoeaaDoorCoreL
set_option linter.unusedVariables false
set_option linter.unusedSimpArgs false
namespace Go.Proofs.YthmeonimianoeaaDoor
open Go.RowKit

theorem many_falseC {t : Tr} (h : (flat t).length ≤ 3000) : manyB (flat t) = false := by
  have := flat_pos t
  simp only [manyB, Bool.or_eq_false_iff, beq_eq_false_iff_ne, decide_eq_false_iff_not]
  omega
theorem check_okC (v : Value) (t : Tr) (aN aT aM : Addr) (w : World) (hok : okT 30 false t = true) (hn : (flat t).length ≤ 3000) (hnd : ∀ x ∈ flat t, NdOk x) (hv : SlRd w v (flat t)) (hE : ErrW w aN aT aM) :
    Calls Tryd.prog 15 #[v] w (Ret w .nilIface) := by
  refine (check_v v (flat t) aN aT aM w (by omega) hnd hv hE).mono ?_
  rintro e w' ⟨u, rfl, hu, hb⟩
  rw [many_falseC hn, if_neg Bool.noConfusion, (check_flat t).2 hok] at hu
  obtain rfl : u = Value.nilIface := hu
  exact ⟨rfl, hb⟩
theorem cpass_tree (v : Value) (t : Tr) (aN aT aM : Addr) (w : World) (hok : okT 30 false t = true) (hn : (flat t).length ≤ 3000) (hv : SlRd w v (flat t)) (hE : ErrW w aN aT aM) :
    Calls Tryd.prog 17 #[v] w (VRet (flat (constT t)) w) := by
  have CK := Lib.hid (check_okC v t aN aT aM w hok hn (ok_nd ⟨30, false, hok⟩ (by omega)) hv hE)
  have CW := Lib.hid (fun W (hb : Below w.heap.size w W) => cwhole_any 3000 t v W hn (by decide) ⟨30, false, hok⟩ (hv.below hb))
  obtain ⟨A, c, rfl, -⟩ := hv
  generalize (flat t).length = m at *
  clear hok hn hE
  go_enter Tryd.func17, Tryd.ntmps17
  go_wp2_with fail
  refine CK.out.mono ?_
  rintro e w1 ⟨rfl, hb⟩
  go_wp2_with fail
  refine (CW.out _ hb).mono ?_
  rintro e w2 ⟨A2, n2, c2, rfl, o2, hb2⟩
  have O2 := Lib.hid (o2.mono hb.size)
  have hb12 := hb.trans (hb2.mono hb.size)
  clear o2
  go_wp2_with fail
  go_ret
  exact ⟨A2, n2, c2, rfl, O2.out, hb12⟩
def setT (t : Tr) : Tr := .mk 22 0 [120] [t]
theorem setT_ok {t : Tr} (h : okT 29 true t = true) : okT 30 false (setT t) = true := by
  rw [setT, okT]
  simp only [Bool.and_eq_true]
  refine ⟨⟨⟨by decide, by kernel_rfl⟩, rfl⟩, ?_⟩
  rw [okAll, okAll]
  rw [Bool.and_true]
  exact h
theorem cword_tree (v : Value) (t : Tr) (aN aT aM : Addr) (w : World) (hok : okT 29 true t = true) (hn : (flat t).length ≤ 2900) (hv : SlRd w v (flat t)) (hE : ErrW w aN aT aM) :
    Calls Tryd.prog 22 #[v] w (VRet (flat (constT t)) w) := by
  have hset := setT_ok hok
  have hsl : (flat (setT t)).length ≤ 3000 := by rw [setT, flat_size, flatAll_cons, flatAll_nil, List.append_nil]; omega
  have CK := Lib.hid (fun v W h1 h2 => check_okC v (setT t) aN aT aM W hset hsl (ok_nd ⟨30, false, hset⟩ (by omega)) h1 h2)
  have CW := Lib.hid (fun W (hb : Below w.heap.size w W) => cwhole_any 3000 t v W (by omega) (by decide) ⟨29, true, hok⟩ (hv.below hb))
  have HE := Lib.hid hE
  have NC := Lib.hid (newL_any 22 0 [120] _ 1 1 [t] w (AllRd.one hv) rfl (by rw [flatAll_cons, flatAll_nil, List.append_nil]; omega))
  obtain ⟨A, c, rfl, -⟩ := hv
  generalize (flat t).length = m at *
  clear hok hn hE hset hsl
  go_enter Tryd.func22, Tryd.ntmps22
  go_wp2_with fail
  refine NC.out.mono ?_
  rintro e w1 ⟨A1, n1, c1, rfl, o1, hb⟩
  have s1 : SlRd w1 (.slice A1 n1 c1) (flat (setT t)) := o1.rd
  have CK1 := Lib.hid (CK.out _ w1 s1 (HE.out.below hb))
  clear o1 s1 CK NC
  go_wp2_with fail
  refine CK1.out.mono ?_
  rintro e w3 ⟨rfl, hb3⟩
  have hb13 := hb.trans (hb3.mono hb.size)
  go_wp2_with fail
  refine (CW.out _ hb13).mono ?_
  rintro e w2 ⟨A2, n2, c2, rfl, o2, hb2⟩
  have O2 := Lib.hid (o2.mono hb13.size)
  have hb12 := hb13.trans (hb2.mono hb13.size)
  clear o2
  go_wp2_with fail
  go_ret
  exact ⟨A2, n2, c2, rfl, O2.out, hb12⟩
theorem sameT_yes (va vb : Value) (t : Tr) (w : World) (ha : SlRd w va (flat t)) (hb : SlRd w vb (flat t)) (hl : (flat t).length ≤ 4000000) : Calls Tryd.prog 19 #[va, vb] w (Ret w (.bool true)) := by
  have h := same_v va vb _ _ w ha hb hl hl
  rw [(sameL_iff _ _).2 rfl] at h
  exact h
def lT (s : List UInt8) : Tr := .mk 1 0 s []
def callAB : Tr := .mk 21 0 [] [lT [97], lT [98]]
theorem func1_any (w : World) : Calls Tryd.prog 41 #[.string ⟨#[97]⟩, .string ⟨#[98]⟩] w (VRet (flat callAB) w) := by
  go_enter Tryd.func41, Tryd.ntmps41
  go_wp2_with fail
  refine (litT_any [97] _).mono ?_
  rintro e w1 ⟨A1, n1, c1, rfl, o1, hb1⟩
  have s1 := o1.rd
  clear o1
  have hb := hb1
  go_wp2_with fail
  refine (litT_any [98] _).mono ?_
  rintro e w2 ⟨A2, n2, c2, rfl, o2, hb2⟩
  have s2 := o2.rd
  clear o2
  replace s1 := s1.below hb2
  replace hb := hb.trans (hb2.mono hb.size)
  clear hb1 hb2
  go_wp2_with fail
  refine (newL_any 21 0 [] _ 2 2 [lT [97], lT [98]] _ (AllRd.two s1 s2) rfl (of_decide_eq_true (by kernel_rfl))).mono ?_
  rintro e w3 ⟨A3, n3, c3, rfl, o3, hb3⟩
  have O3 := Lib.hid (o3.mono hb.size)
  replace hb := hb.trans (hb3.mono hb.size)
  clear s1 s2 o3 hb3
  go_wp2_with fail
  go_ret
  exact ⟨A3, n3, c3, rfl, O3.out, hb⟩
def wT1 : Tr := .mk 4 0 [] [lT [97], lT [98], .mk 2 0 [120] []]
def wT2 : Tr := .mk 6 0 [] [.mk 1 1 [97, 92, 42] []]
def wT3 : Tr := .mk 5 0 [] [lT [32, 97]]
def rT1 : Tr := .mk 4 0 [] [lT [97, 98], .mk 2 0 [120] []]
theorem const1 : constT wT1 = rT1 := by kernel_rfl
theorem const2 : constT wT2 = lT [97, 42] := by kernel_rfl
theorem const3 : constT wT3 = .mk 1 1 [97] [] := by kernel_rfl
theorem const4 : constT callAB = callAB := by kernel_rfl
set_option maxRecDepth 100000 in
set_option maxHeartbeats 8000000 in
theorem first17_any (aN aT aM : Addr) (w : World) (hE : ErrW w aN aT aM) : Calls Tryd.prog 14 #[] w (Ret w (.bool true)) := by
  have WC := Lib.hid (fun v t W h1 h2 h3 h4 => cword_tree v t aN aT aM W h2 h3 h1 h4)
  have HE := Lib.hid hE
  clear hE
  go_enter Tryd.func14, Tryd.ntmps14
  go_wp2_with fail
  refine (func1_any _).mono ?_
  rintro e w1 ⟨A1, n1, c1, rfl, o1, hb⟩
  have s1 := o1.rd
  clear o1
  go_wp2_with fail
  refine (litT_any [97] _).mono ?_
  rintro e w2 ⟨A2, n2, c2, rfl, o2, hb2⟩
  have s2 := o2.rd
  clear o2
  replace s1 := s1.below hb2
  replace hb := hb.trans (hb2.mono hb.size)
  clear hb2
  go_wp2_with fail
  refine (litT_any [98] _).mono ?_
  rintro e w3 ⟨A3, n3, c3, rfl, o3, hb3⟩
  have s3 := o3.rd
  clear o3
  replace s1 := s1.below hb3
  replace s2 := s2.below hb3
  replace hb := hb.trans (hb3.mono hb.size)
  clear hb3
  go_wp2_with fail
  refine (newT_any 2 0 [120] none 0 0 [] _ (KdRd.nil _ _) rfl (of_decide_eq_true (by kernel_rfl))).mono ?_
  rintro e w4 ⟨A4, n4, c4, rfl, o4, hb4⟩
  have s4 := o4.rd
  replace s1 := s1.below hb4
  replace s2 := s2.below hb4
  replace s3 := s3.below hb4
  replace hb := hb.trans (hb4.mono hb.size)
  clear o4 hb4
  go_wp2_with fail
  refine (newL_any 4 0 [] _ 3 3 [lT [97], lT [98], .mk 2 0 [120] []] _ (AllRd.three s2 s3 s4) rfl (of_decide_eq_true (by kernel_rfl))).mono ?_
  rintro e w5 ⟨A5, n5, c5, rfl, o5, hb5⟩
  have s5 : SlRd w5 (.slice A5 n5 c5) (flat wT1) := o5.rd
  replace s1 := s1.below hb5
  replace hb := hb.trans (hb5.mono hb.size)
  clear o5 hb5 s2 s3 s4
  go_wp2_with fail
  refine (WC.out _ wT1 _ s5 (by kernel_rfl) (of_decide_eq_true (by kernel_rfl)) (HE.out.below hb)).mono ?_
  rintro e w6 ⟨A6, n6, c6, rfl, o6, hb6⟩
  rw [const1] at o6
  have s6 := o6.rd
  clear o6
  replace s1 := s1.below hb6
  replace hb := hb.trans (hb6.mono hb.size)
  clear hb6 s5
  go_wp2_with fail
  refine (newT_any 1 1 [97, 92, 42] none 0 0 [] _ (KdRd.nil _ _) rfl (of_decide_eq_true (by kernel_rfl))).mono ?_
  rintro e w7 ⟨A7, n7, c7, rfl, o7, hb7⟩
  have s7 := o7.rd
  replace s1 := s1.below hb7
  replace s6 := s6.below hb7
  replace hb := hb.trans (hb7.mono hb.size)
  clear o7 hb7
  go_wp2_with fail
  refine (newL_any 6 0 [] _ 1 1 [.mk 1 1 [97, 92, 42] []] _ (AllRd.one s7) rfl (of_decide_eq_true (by kernel_rfl))).mono ?_
  rintro e w8 ⟨A8, n8, c8, rfl, o8, hb8⟩
  have s8 : SlRd w8 (.slice A8 n8 c8) (flat wT2) := o8.rd
  replace s1 := s1.below hb8
  replace s6 := s6.below hb8
  replace hb := hb.trans (hb8.mono hb.size)
  clear o8 hb8 s7
  go_wp2_with fail
  refine (WC.out _ wT2 _ s8 (by kernel_rfl) (of_decide_eq_true (by kernel_rfl)) (HE.out.below hb)).mono ?_
  rintro e w9 ⟨A9, n9, c9, rfl, o9, hb9⟩
  rw [const2] at o9
  have s9 := o9.rd
  clear o9
  replace s1 := s1.below hb9
  replace s6 := s6.below hb9
  replace hb := hb.trans (hb9.mono hb.size)
  clear hb9 s8
  go_wp2_with fail
  refine (litT_any [32, 97] _).mono ?_
  rintro e w10 ⟨A10, n10, c10, rfl, o10, hb10⟩
  have s10 := o10.rd
  clear o10
  replace s1 := s1.below hb10
  replace s6 := s6.below hb10
  replace s9 := s9.below hb10
  replace hb := hb.trans (hb10.mono hb.size)
  clear hb10
  go_wp2_with fail
  refine (newL_any 5 0 [] _ 1 1 [lT [32, 97]] _ (AllRd.one s10) rfl (of_decide_eq_true (by kernel_rfl))).mono ?_
  rintro e w11 ⟨A11, n11, c11, rfl, o11, hb11⟩
  have s11 : SlRd w11 (.slice A11 n11 c11) (flat wT3) := o11.rd
  replace s1 := s1.below hb11
  replace s6 := s6.below hb11
  replace s9 := s9.below hb11
  replace hb := hb.trans (hb11.mono hb.size)
  clear o11 hb11 s10
  go_wp2_with fail
  refine (WC.out _ wT3 _ s11 (by kernel_rfl) (of_decide_eq_true (by kernel_rfl)) (HE.out.below hb)).mono ?_
  rintro e w12 ⟨A12, n12, c12, rfl, o12, hb12⟩
  rw [const3] at o12
  have s12 := o12.rd
  clear o12
  replace s1 := s1.below hb12
  replace s6 := s6.below hb12
  replace s9 := s9.below hb12
  replace hb := hb.trans (hb12.mono hb.size)
  clear hb12 s11
  go_wp2_with fail
  refine (litT_any [97, 98] _).mono ?_
  rintro e w13 ⟨A13, n13, c13, rfl, o13, hb13⟩
  have s13 := o13.rd
  clear o13
  replace s1 := s1.below hb13
  replace s6 := s6.below hb13
  replace s9 := s9.below hb13
  replace s12 := s12.below hb13
  replace hb := hb.trans (hb13.mono hb.size)
  clear hb13
  go_wp2_with fail
  refine (newT_any 2 0 [120] none 0 0 [] _ (KdRd.nil _ _) rfl (of_decide_eq_true (by kernel_rfl))).mono ?_
  rintro e w14 ⟨A14, n14, c14, rfl, o14, hb14⟩
  have s14 := o14.rd
  replace s1 := s1.below hb14
  replace s6 := s6.below hb14
  replace s9 := s9.below hb14
  replace s12 := s12.below hb14
  replace s13 := s13.below hb14
  replace hb := hb.trans (hb14.mono hb.size)
  clear o14 hb14
  go_wp2_with fail
  refine (newL_any 4 0 [] _ 2 2 [lT [97, 98], .mk 2 0 [120] []] _ (AllRd.two s13 s14) rfl (of_decide_eq_true (by kernel_rfl))).mono ?_
  rintro e w15 ⟨A15, n15, c15, rfl, o15, hb15⟩
  have s15 : SlRd w15 (.slice A15 n15 c15) (flat rT1) := o15.rd
  replace s1 := s1.below hb15
  replace s6 := s6.below hb15
  replace s9 := s9.below hb15
  replace s12 := s12.below hb15
  replace hb := hb.trans (hb15.mono hb.size)
  clear o15 hb15 s13 s14
  go_wp2_with fail
  refine (sameT_yes _ _ rT1 _ s6 s15 (of_decide_eq_true (by kernel_rfl))).mono ?_
  rintro e w16 ⟨rfl, hb16⟩
  replace s1 := s1.below hb16
  replace s9 := s9.below hb16
  replace s12 := s12.below hb16
  replace hb := hb.trans (hb16.mono hb.size)
  clear s6 s15 hb16
  go_wp2_with fail
  refine (litT_any [97, 42] _).mono ?_
  rintro e w17 ⟨A17, n17, c17, rfl, o17, hb17⟩
  have s17 := o17.rd
  clear o17
  replace s1 := s1.below hb17
  replace s9 := s9.below hb17
  replace s12 := s12.below hb17
  replace hb := hb.trans (hb17.mono hb.size)
  clear hb17
  go_wp2_with fail
  refine (sameT_yes _ _ (lT [97, 42]) _ s9 s17 (of_decide_eq_true (by kernel_rfl))).mono ?_
  rintro e w18 ⟨rfl, hb18⟩
  replace s1 := s1.below hb18
  replace s12 := s12.below hb18
  replace hb := hb.trans (hb18.mono hb.size)
  clear s9 s17 hb18
  go_wp2_with fail
  refine (newT_any 1 1 [97] none 0 0 [] _ (KdRd.nil _ _) rfl (of_decide_eq_true (by kernel_rfl))).mono ?_
  rintro e w19 ⟨A19, n19, c19, rfl, o19, hb19⟩
  have s19 := o19.rd
  replace s1 := s1.below hb19
  replace s12 := s12.below hb19
  replace hb := hb.trans (hb19.mono hb.size)
  clear o19 hb19
  go_wp2_with fail
  refine (sameT_yes _ _ (.mk 1 1 [97] []) _ s12 s19 (of_decide_eq_true (by kernel_rfl))).mono ?_
  rintro e w20 ⟨rfl, hb20⟩
  replace s1 := s1.below hb20
  replace hb := hb.trans (hb20.mono hb.size)
  clear s12 s19 hb20
  go_wp2_with fail
  refine (cpass_tree _ callAB aN aT aM _ (by kernel_rfl) (of_decide_eq_true (by kernel_rfl)) s1 (HE.out.below hb)).mono ?_
  rintro e w21 ⟨A21, n21, c21, rfl, o21, hb21⟩
  rw [const4] at o21
  have s21 := o21.rd
  replace s1 := s1.below hb21
  replace hb := hb.trans (hb21.mono hb.size)
  clear o21 hb21
  go_wp2_with fail
  refine (sameT_yes _ _ callAB _ s21 s1 (of_decide_eq_true (by kernel_rfl))).mono ?_
  rintro e w22 ⟨rfl, hb22⟩
  replace hb := hb.trans (hb22.mono hb.size)
  go_wp2_with fail
  go_ret
  exact ⟨rfl, hb⟩
end Go.Proofs.YthmeonimianoeaaDoor
