/- The walk over PassesParts. Bounds on the lengths. -/
import Derived.Test.YtpogngdddendiaaDoorHV
import Derived.Test.YtpogngdddendiaaDoorErrs17
import Derived.Test.YtpogngdddendiaaDoorOpenN
set_option linter.unusedVariables false
set_option linter.unusedSimpArgs false
namespace Go.Proofs.YtpogngdddendiaaDoor
open Go.RowKit

theorem badAt_or : ∀ ps : List Int, (∀ p ∈ ps, okP p = true) ∨ ∃ i, BadAt ps i
  | [] => .inl fun _ h => absurd h List.not_mem_nil
  | p :: ps => by
    cases hp : okP p with
    | false => exact .inr ⟨0, by simp, by simp, p, rfl, hp⟩
    | true =>
      rcases badAt_or ps with h | ⟨i, h1, h2, q, h3, h4⟩
      · exact .inl fun x hx => by
          rcases List.mem_cons.1 hx with rfl | hx
          · exact hp
          · exact h x hx
      · refine .inr ⟨i + 1, by simpa using h1, fun x hx => ?_, q, by simpa using h3, h4⟩
        rw [List.take_succ_cons] at hx
        rcases List.mem_cons.1 hx with rfl | hx
        · exact hp
        · exact h2 x hx
theorem run_okv (v : Value) (t : Tr) (A : Option Addr) (c m : Nat) (ps : List Int) (aN aT aM : Addr) (w : World) (h : GoodT t) (hm : m = ps.length) (hl : ps.length ≤ 20) (hok : ∀ p ∈ ps, okP p = true) (ho : RdL w 1 intc A ps) (hv : SlRd w v (flat t)) (hE : ErrW w aN aT aM) :
    Calls Tryd.prog 20 #[v, .slice A m c] w (RunOk (flat (foldP ps t)) w) := by
  obtain ⟨A', cv, rfl, hr⟩ := hv
  subst hm
  exact run_ok A' cv t A c ps aN aT aM w h ⟨A', cv, rfl, hr⟩ hE ho hl hok
theorem run_badv (v : Value) (t : Tr) (A : Option Addr) (c m : Nat) (ps : List Int) (L : List Addr) (aN aT aM : Addr) (i : Nat) (w : World) (h : GoodT t) (hm : m = ps.length) (hl : ps.length ≤ 20) (hbd : BadAt ps i) (ho : RdL w 1 intc A ps) (hv : SlRd w v (flat t)) (hE : ErrW w aN aT aM) (hS : SenW w L) :
    Calls Tryd.prog 20 #[v, .slice A m c] w (RunBad L i w) := by
  obtain ⟨A', cv, rfl, hr⟩ := hv
  subst hm
  exact run_bad A' cv t A c ps L aN aT aM i w h ⟨A', cv, rfl, hr⟩ hE hS ho hl hbd
theorem same_self (va vb : Value) (t : Tr) (w : World) (h : GoodT t) (ha : SlRd w va (flat t)) (hb : SlRd w vb (flat t)) : Calls Tryd.prog 21 #[va, vb] w (Ret w (.bool true)) := by
  have := same_v va vb (flat t) (flat t) w ha hb (by have := h.2; omega) (by have := h.2; omega)
  rwa [(sameL_iff (flat t) (flat t)).2 rfl] at this
set_option maxRecDepth 100000 in
set_option maxHeartbeats 8000000 in
theorem pasparts_walk (A : Option Addr) (cp : Nat) (N : List Nd) (Aa : Option Addr) (ca : Nat) (xs : List Int) (Ab : Option Addr) (cb : Nat) (ys : List Int) (L : List Addr) (w : World)
    (hrd : RdL w 5 ndc A N) (hc : N.length ≤ cp) (hm : cp ≤ maxLen) (hA : A = none → cp = 0) (hnd : ∀ x ∈ N, NdOk x)
    (hra : RdL w 1 intc Aa xs) (hca : xs.length ≤ 1048576) (hAa : Aa = none → ca = 0) (hrb : RdL w 1 intc Ab ys) (hcb : ys.length ≤ 1048576) (hAb : Ab = none → cb = 0) (hS : SenW w L) :
    Calls Tryd.prog 6 #[.slice A N.length cp, .slice Aa xs.length ca, .slice Ab ys.length cb] w (Ret w (.bool true)) := by
  obtain ⟨aN, aT, aM, hE, _⟩ := hS.errw
  have HF := Lib.hid (first21_any L aN aT aM w hS hE)
  have HV := Lib.hid (show SlRd w (.slice A N.length cp) N from ⟨A, cp, rfl, hrd, hc, hm, hA, trivial⟩)
  have HRD := Lib.hid hrd
  have HND := Lib.hid hnd
  have HE := Lib.hid hE
  have HS := Lib.hid hS
  have HRA := Lib.hid hra
  have HRB := Lib.hid hrb
  have HAa := Lib.hid hAa
  have HAb := Lib.hid hAb
  obtain ⟨m, hml⟩ : ∃ m, m = N.length := ⟨_, rfl⟩
  rw [← hml] at hc ⊢
  have HM := Lib.hid hml
  obtain ⟨na, hna⟩ : ∃ n, n = xs.length := ⟨_, rfl⟩
  rw [← hna] at hca ⊢
  have HNA := Lib.hid hna
  obtain ⟨nb, hnb⟩ : ∃ n, n = ys.length := ⟨_, rfl⟩
  rw [← hnb] at hcb ⊢
  have HNB := Lib.hid hnb
  unfold maxLen at hm
  clear hrd hA hml hnd hE hS hra hrb hAa hAb hna hnb
  go_enter Tryd.func6, Tryd.ntmps6
  go_wp2_with fail
  refine HF.out.mono ?_
  rintro e w1 ⟨rfl, hb⟩
  clear HF
  rcases Nat.lt_or_ge 120 m with h200 | h200
  · have hg : decide ((120 : Int) < (m : Int)) = true := decide_eq_true (by omega)
    go_wp2_with fail
    go_ret
    exact ⟨rfl, hb⟩
  have hg : decide ((120 : Int) < (m : Int)) = false := decide_eq_false (by omega)
  have CK := Lib.hid (check_any A cp N aN aT aM w1 (by rw [← HM.out]; omega) HND.out (HRD.out.below hb) (HE.out.below hb))
  rw [← HM.out] at CK
  by_cases hbad : manyB N = true ∨ checkP N ≠ none
  · go_wp2_with fail
    refine CK.out.mono ?_
    rintro e w4 ⟨v1, rfl, hv1, hb4⟩
    have hb14 := hb.trans (hb4.mono hb.size)
    by_cases hmn : manyB N = true
    · rw [if_pos hmn] at hv1
      subst hv1
      go_wp2_with fail
      go_ret
      exact ⟨rfl, hb14⟩
    · rw [if_neg hmn] at hv1
      cases hcp : checkP N with
      | none => exact absurd hcp (hbad.resolve_left hmn)
      | some z =>
        obtain ⟨i, nest⟩ := z
        rw [hcp] at hv1
        obtain ⟨g, rfl, _, _, _⟩ := hv1
        go_wp2_with fail
        go_ret
        exact ⟨rfl, hb14⟩
  have hmb : manyB N = false := by
    cases hq : manyB N
    · rfl
    · exact absurd (.inl hq) hbad
  have hck : checkP N = none := by
    cases hq : checkP N with
    | none => rfl
    | some z => exact absurd (.inr (by rw [hq]; simp)) hbad
  have h0 : N.length ≠ 0 := by
    intro h0
    rw [manyB, h0] at hmb
    simp at hmb
  obtain ⟨t, ht1, ht2⟩ := (check_tree N h0).1 hck
  subst ht2
  have HCV := Lib.hid (show ∀ w' v, (if manyB (flat t) = true then v = .iface 226 (.pointer (some aM)) else LookV w' w1.heap.size aN aT (checkP (flat t)) v) → v = .nilIface from fun w' v h => by
    rw [if_neg (by rw [hmb]; simp), hck] at h
    exact h)
  have HV := Lib.hid (show SlRd w (.slice A m cp) (flat t) by have := HV.out; rw [← HM.out] at this; exact this)
  have HG := Lib.hid (show GoodT t from ⟨ht1, by rw [← HM.out]; omega⟩)
  have HB1 := Lib.hid hb
  clear hbad hmb hck h0 ht1 hb
  rcases Nat.lt_or_ge 20 (na + nb) with h20 | h20
  · have hg2 : decide ((20 : Int) < (na : Int) + (nb : Int)) = true := decide_eq_true (by omega)
    go_wp2_with fail
    refine CK.out.mono ?_
    rintro e w2 ⟨v1, rfl, hv1, hb2⟩
    obtain rfl := HCV.out _ _ hv1
    have HB2 := Lib.hid (HB1.out.trans (hb2.mono HB1.out.size))
    clear hv1 hb2 CK HCV HB1
    go_wp2_with fail
    go_ret
    exact ⟨rfl, HB2.out⟩
  have hg2 : decide ((20 : Int) < (na : Int) + (nb : Int)) = false := decide_eq_false (by omega)
  go_wp2_with fail
  refine CK.out.mono ?_
  rintro e w2 ⟨v1, rfl, hv1, hb2⟩
  obtain rfl := HCV.out _ _ hv1
  have HB2 := Lib.hid (HB1.out.trans (hb2.mono HB1.out.size))
  clear hv1 hb2 CK HCV HB1
  obtain ⟨i0, hi, hz0, hz1, hz2⟩ := info_parts (show (Tryd.prog.info? 3).map (fun i => (i.zero, i.size, i.bytes)) = some (some (.int .i64 0), 1, 8) by kernel_rfl)
  have hra := HRA.out.below HB2.out
  have hrb := HRB.out.below HB2.out
  have hAa := HAa.out
  have hAb := HAb.out
  go_upto_region 5 with (first
    | (at_make; refine wpList_make_own w2 rfl _ _ _ rfl w2.heap.size _ i0 _ 1 Tryd.underlying45 hi hz0 hz1 .i64 .i64 20 20 rfl rfl rfl (by rw [hz2]; decide) (by decide) (Nat.le_refl _) ?_; intro w6 ho6 hg6; have hb6 := (Below.refl w2.heap.size w2).grown hg6 (Nat.le_refl _) (fun k h => by cases h); have hra6 := hra.below hb6; have hrb6 := hrb.below hb6)
    | (at_builtin; refine wpList_pushAll (enc := intc) rfl _ _ _ rfl Tryd.underlying45 hi hz0 hz1 hz2 rfl (by decide) ho6 rfl rfl HNA.out hra6 hAa trivial intc_len intc_one (by omega) (by decide) hb6.size ?_; intro A' c' w7 ho7 hb7 hoo7; rw [Nat.zero_add, List.nil_append] at ho7; have hbx7 := hb6.trans hb7; have hrb7 := hrb.below hbx7; clear ho6 hra6)
    | (at_builtin; refine wpList_pushAll (enc := intc) rfl _ _ _ rfl Tryd.underlying45 hi hz0 hz1 hz2 rfl (by decide) ho7 rfl rfl HNB.out hrb7 hAb trivial intc_len intc_one (by omega) (by decide) hbx7.size ?_; intro A8 c8 w8 ho8 hb8 hoo8; have hbx8 := hbx7.trans hb8; clear ho7 hrb7))
  have hcat : ∃ c, A8 = none → c = 0 := ⟨0, fun _ => rfl⟩
  have HW : RdL w8 1 intc A8 (xs ++ ys) := by
    have hall : w8.ownsRow w2.heap.size 3 1 (.slice A8 (xs ++ ys).length c8) (xs ++ ys).length ((xs ++ ys).flatMap intc) := by
      rw [List.length_append, ← HNA.out, ← HNB.out, List.flatMap_append]
      exact ho8
    obtain ⟨_, _, hA8, _, _, hr8, _⟩ := RdL.of_own intc_len hall rfl
    injection hA8 with q1 _ q2
    subst q1
    exact hr8
  have HR8 := Lib.hid HW
  have HB8 := Lib.hid (HB2.out.trans (hbx8.mono HB2.out.size))
  obtain ⟨nn, hnn⟩ : ∃ n, n = na + nb := ⟨_, rfl⟩
  have HNN := Lib.hid (show nn = (xs ++ ys).length by rw [List.length_append, ← HNA.out, ← HNB.out, hnn])
  have HL20 := Lib.hid (show (xs ++ ys).length ≤ 20 by rw [← HNN.out]; omega)
  have HLa := Lib.hid (show xs.length ≤ 20 by rw [← HNA.out]; omega)
  have HLb := Lib.hid (show ys.length ≤ 20 by rw [← HNB.out]; omega)
  rw [← hnn]
  have RN := Lib.hid (fun W (hW : Below w.heap.size w W) => run_okv (.slice A m cp) t none 0 0 [] aN aT aM W HG.out rfl (by decide) (fun p h => absurd h List.not_mem_nil) (RdL.nil _ _ _ _) (HV.out.below hW) (HE.out.below hW))
  clear hra hrb hAa hAb hb6 hrb6 hbx7 hbx8 hb7 hb8 hoo7 hoo8 hg6 ho8 HW hcat hnn hi hz0 hz1 hz2 hg hg2 HRD HND HAa HAb HB2
  rcases badAt_or (xs ++ ys) with hok | ⟨i, hbd⟩
  · have R1 := Lib.hid (run_okv (.slice A m cp) t A8 c8 nn (xs ++ ys) aN aT aM w8 HG.out HNN.out HL20.out hok HR8.out (HV.out.below HB8.out) (HE.out.below HB8.out))
    have hoka : ∀ p ∈ xs, okP p = true := fun p h => hok p (List.mem_append_left _ h)
    have HOKB := Lib.hid (show ∀ p ∈ ys, okP p = true from fun p h => hok p (List.mem_append_right _ h))
    have R2 := Lib.hid (fun W (hW : Below w.heap.size w W) => run_okv (.slice A m cp) t Aa ca na xs aN aT aM W HG.out HNA.out HLa.out hoka (HRA.out.below hW) (HV.out.below hW) (HE.out.below hW))
    clear hok hoka
    go_wp2_with fail
    refine R1.out.mono ?_
    rintro e w9 ⟨A9, n9, c9, rfl, o9, hb9⟩
    have s9 := o9.rd
    have hb := HB8.out.trans (hb9.mono HB8.out.size)
    clear o9 hb9 R1 HB8 HR8
    go_wp2_with fail
    refine (R2.out _ hb).mono ?_
    rintro e w10 ⟨A10, n10, c10, rfl, o10, hb10⟩
    have s10 := o10.rd
    replace s9 := s9.below hb10
    replace hb := hb.trans (hb10.mono hb.size)
    clear o10 hb10 R2
    go_wp2_with fail
    refine (RN.out _ hb).mono ?_
    rintro e w11 ⟨A11, n11, c11, rfl, o11, hb11⟩
    have s11 : SlRd w11 (.slice A11 n11 c11) (flat t) := o11.rd
    replace s9 := s9.below hb11
    replace s10 := s10.below hb11
    replace hb := hb.trans (hb11.mono hb.size)
    clear o11 hb11 RN
    have R3 := Lib.hid (run_okv (.slice A10 n10 c10) (foldP xs t) Ab cb nb ys aN aT aM w11 (foldP_good _ _ HG.out) HNB.out HLb.out HOKB.out (HRB.out.below hb) s10 (HE.out.below hb))
    rw [← foldP_app] at R3
    clear s10
    go_wp2_with fail
    refine R3.out.mono ?_
    rintro e w12 ⟨A12, n12, c12, rfl, o12, hb12⟩
    have s12 := o12.rd
    replace s9 := s9.below hb12
    replace s11 := s11.below hb12
    replace hb := hb.trans (hb12.mono hb.size)
    clear o12 hb12 R3
    go_wp2_with fail
    refine (same_self _ _ _ _ (foldP_good _ _ HG.out) s9 s12).mono ?_
    rintro e w13 ⟨rfl, hb13⟩
    replace s11 := s11.below hb13
    replace hb := hb.trans (hb13.mono hb.size)
    clear hb13 s9 s12
    have SV := Lib.hid (same_self _ _ _ _ HG.out s11 (HV.out.below hb))
    clear s11
    go_wp2_with fail
    refine SV.out.mono ?_
    rintro e w14 ⟨rfl, hb14⟩
    replace hb := hb.trans (hb14.mono hb.size)
    clear hb14 SV
    go_wp2_with fail
    go_ret
    exact ⟨rfl, hb⟩
  · have R1 := Lib.hid (run_badv (.slice A m cp) t A8 c8 nn (xs ++ ys) L aN aT aM i w8 HG.out HNN.out HL20.out hbd HR8.out (HV.out.below HB8.out) (HE.out.below HB8.out) (HS.out.below HB8.out))
    clear hbd
    go_wp2_with fail
    refine R1.out.mono ?_
    rintro e w9 ⟨g9, rfl, _, hb9⟩
    have hb := HB8.out.trans (hb9.mono HB8.out.size)
    clear hb9 R1 HB8 HR8
    rcases badAt_or xs with hoka | ⟨i2, hbd2⟩
    · have R2 := Lib.hid (fun W (hW : Below w.heap.size w W) => run_okv (.slice A m cp) t Aa ca na xs aN aT aM W HG.out HNA.out HLa.out hoka (HRA.out.below hW) (HV.out.below hW) (HE.out.below hW))
      clear hoka
      go_wp2_with fail
      refine (R2.out _ hb).mono ?_
      rintro e w10 ⟨A10, n10, c10, rfl, o10, hb10⟩
      replace hb := hb.trans (hb10.mono hb.size)
      clear o10 hb10 R2
      go_wp2_with fail
      refine (RN.out _ hb).mono ?_
      rintro e w11 ⟨A11, n11, c11, rfl, o11, hb11⟩
      replace hb := hb.trans (hb11.mono hb.size)
      clear o11 hb11 RN
      go_wp2_with fail
      go_ret
      exact ⟨rfl, hb⟩
    · have R2 := Lib.hid (fun W (hW : Below w.heap.size w W) => run_badv (.slice A m cp) t Aa ca na xs L aN aT aM i2 W HG.out HNA.out HLa.out hbd2 (HRA.out.below hW) (HV.out.below hW) (HE.out.below hW) (HS.out.below hW))
      clear hbd2
      go_wp2_with fail
      refine (R2.out _ hb).mono ?_
      rintro e w10 ⟨g10, rfl, _, hb10⟩
      replace hb := hb.trans (hb10.mono hb.size)
      clear hb10 R2
      go_wp2_with fail
      refine (RN.out _ hb).mono ?_
      rintro e w11 ⟨A11, n11, c11, rfl, o11, hb11⟩
      replace hb := hb.trans (hb11.mono hb.size)
      clear o11 hb11 RN
      go_wp2_with fail
      go_ret
      exact ⟨rfl, hb⟩
theorem wf_le21 {n : Int} (h : (Lit.int .i64 n).wf = true) : n ≤ 9223372036854775807 := by
  simp only [Lit.wf, Bool.and_eq_true, decide_eq_true_eq] at h
  have h2 : IntKind.i64.max = 9223372036854775807 := by decide
  rw [h2] at h
  exact h.2
theorem ndok21 {L : List Nd} (hi : ∀ y ∈ L, NdIn y) (hb : ∀ y ∈ L, y.s.length ≤ 1048576) : ∀ y ∈ L, NdOk y := fun y hy => ⟨by have := hb y hy; omega, wf_le21 (hi y hy).2.2.2.1⟩
theorem pasparts_upto (A : Option Addr) (cp : Nat) (N : List Nd) (Aa : Option Addr) (ca : Nat) (xs : List Int) (Ab : Option Addr) (cb : Nat) (ys : List Int) (L : List Addr) (w : World)
    (hrd : RdL w 5 ndc A N) (hc : N.length ≤ cp) (hm : cp ≤ maxLen) (hA : A = none → cp = 0) (hi : ∀ y ∈ N, NdIn y) (hb : N.length ≤ 1048576 ∧ ∀ y ∈ N, y.s.length ≤ 1048576)
    (hra : RdL w 1 intc Aa xs) (hca : xs.length ≤ 1048576) (hAa : Aa = none → ca = 0) (hrb : RdL w 1 intc Ab ys) (hcb : ys.length ≤ 1048576) (hAb : Ab = none → cb = 0) (hS : SenW w L) :
    Calls Tryd.prog 6 #[.slice A N.length cp, .slice Aa xs.length ca, .slice Ab ys.length cb] w fun e w' => e = .returned (.bool true) ∧ Below w.heap.size w w' :=
  pasparts_walk A cp N Aa ca xs Ab cb ys L w hrd hc hm hA (ndok21 hi hb.2) hra hca hAa hrb hcb hAb hS
end Go.Proofs.YtpogngdddendiaaDoor
