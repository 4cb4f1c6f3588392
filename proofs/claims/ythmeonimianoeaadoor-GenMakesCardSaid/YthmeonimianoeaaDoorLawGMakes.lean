/- GenMakes: whatever nodes are handed in, the law answers true. No condition but what the package-level errors hold. -/
import Derived.Test.YthmeonimianoeaaDoorGenF
import Derived.Test.YthmeonimianoeaaDoorGO
set_option linter.unusedVariables false
set_option linter.unusedSimpArgs false
namespace Go.Proofs.YthmeonimianoeaaDoor
open Go.RowKit

theorem wf_le2 {n : Int} (h : (Lit.int .i64 n).wf = true) : n ≤ 9223372036854775807 := by
  simp only [Lit.wf, Bool.and_eq_true, decide_eq_true_eq] at h
  have h2 : IntKind.i64.max = 9223372036854775807 := by decide
  rw [h2] at h
  exact h.2
/-- The check's error, and the compiler's, are of one kind. -/
theorem bad_err {N : List Nd} {Ls : List Addr} {aN aT aM : Addr} (h9 : Ls[9]? = some aN) (h1 : Ls[1]? = some aT) (h10 : Ls[10]? = some aM) (hbad : manyB N = true ∨ checkP N ≠ none) :
    ∃ code ats, ats.length ≤ 1000 ∧ ∀ W B v, (if manyB N = true then v = .iface 191 (.pointer (some aM)) else LookV W B aN aT (checkP N) v) → ErrV W Ls v code ats ∧ ∃ a, v = .iface 191 (.pointer (some a)) ∨ v = .iface 76 (.pointer (some a)) := by
  by_cases hm : manyB N = true
  · refine ⟨111, [], by decide, fun W B v h => ?_⟩
    rw [if_pos hm] at h
    subst h
    exact ⟨.inr (.inl ⟨10, aM, h10, rfl, rfl, rfl⟩), aM, .inl rfl⟩
  · have hc := hbad.resolve_left hm
    cases hcp : checkP N with
    | none => exact absurd hcp hc
    | some z =>
      obtain ⟨i, nest⟩ := z
      refine ⟨if nest then 102 else 110, [(i : Int)], by simp, fun W B v h => ?_⟩
      rw [if_neg hm] at h
      obtain ⟨g, rfl, _, c0, c1⟩ := h
      refine ⟨.inr (.inr ?_), _, .inr rfl⟩
      cases nest
      · exact ⟨9, aN, g, i, h9, rfl, c0, c1, rfl, rfl⟩
      · exact ⟨1, aT, g, i, h1, rfl, c0, c1, rfl, rfl⟩

set_option maxRecDepth 100000 in
set_option maxHeartbeats 8000000 in
theorem genmakes_card (A : Option Addr) (cp : Nat) (N : List Nd) (L : List Addr) (w : World) (hrd : RdL w 5 ndc A N) (hc : N.length ≤ cp) (hm : cp ≤ maxLen) (hA : A = none → cp = 0) (hi : ∀ y ∈ N, NdIn y) (hsz : ∀ y ∈ N, y.s.length ≤ 140737488351232) (hS : SenW w L) :
    Calls Tryd.prog 6 #[.slice A N.length cp] w fun e w' => e = .returned (.bool true) ∧ Below w.heap.size w w' := by
  obtain ⟨bN, bT, bM, hE0, _⟩ := hS.errw
  have FA := Lib.hid (first23_any bN bT bM w hE0)
  clear hE0
  have HI := Lib.hid hi
  have HS := Lib.hid hS
  have HV := Lib.hid (show SlRd w (.slice A N.length cp) N from ⟨A, cp, rfl, hrd, hc, hm, hA, trivial⟩)
  have HRD := Lib.hid hrd
  have HSL := Lib.hid hsz
  obtain ⟨m, hml⟩ : ∃ m, m = N.length := ⟨_, rfl⟩
  rw [← hml] at HV hc ⊢
  have HM := Lib.hid hml
  unfold maxLen at hm
  clear hrd hA hi hS hml hsz
  go_enter Tryd.func6, Tryd.ntmps6
  go_wp2_with fail
  refine FA.out.mono ?_
  rintro e w1 ⟨rfl, hb⟩
  clear FA
  rcases Nat.lt_or_ge 200 m with h200 | h200
  · have hg : decide ((200 : Int) < (m : Int)) = true := decide_eq_true (by omega)
    go_wp2_with fail
    go_ret
    exact ⟨rfl, hb⟩
  have hg : decide ((200 : Int) < (m : Int)) = false := decide_eq_false (by omega)
  go_wp2_with fail
  go_loopw [4, 5] (fun u j wr => ∃ (k S : Nat), k ≤ m ∧ j = .int .i64 k ∧ u = .int .i64 S ∧ S ≤ k * 140737488351232 ∧ Hid (∀ x ∈ N.take k, x.s.length ≤ S) ∧ w1 = wr) (fun _ j _ => m - (intOf j).toNat)
  case atStart => exact ⟨0, 0, Nat.zero_le _, rfl, rfl, by omega, Lib.hid (by simp), rfl⟩
  case round =>
    obtain ⟨k, S, hk, rfl, rfl, hS, HSS, rfl⟩ := hrel
    by_cases hlt : k < m
    · have hkL : k < N.length := by rw [← HM.out]; exact hlt
      obtain ⟨b, o, rfl, _, hcc⟩ := HRD.out.below hb k hkL
      have c4 := hcc 4 _ rfl
      have hsl := HSL.out N[k] (List.getElem_mem _)
      have HT := Lib.hid (show N.take (k + 1) = N.take k ++ [N[k]] from List.take_succ_eq_append_getElem hkL)
      generalize N[k] = x at *
      obtain ⟨q, hq⟩ : ∃ q, q = x.s.length := ⟨_, rfl⟩
      have HQ := Lib.hid hq
      rw [← hq] at hsl
      have hql : x.s.length = q := hq.symm
      clear hcc hq hkL
      go_wp2_with fail
      go_roundw
      case rel =>
        refine ⟨k + 1, S + q, by omega, by go_num, by go_num, by omega, Lib.hid ?_, trivial⟩
        rw [HT.out]
        intro y hy
        rcases List.mem_append.1 hy with hy | hy
        · have := HSS.out y hy; omega
        · rw [List.mem_singleton.1 hy, ← HQ.out]; omega
      case measure => simp [intOf]; omega
    · obtain rfl : k = m := by omega
      rcases Nat.lt_or_ge 9000 S with h9 | h9
      · have hg9 : decide ((9000 : Int) < (S : Int)) = true := decide_eq_true (by omega)
        go_wp2_with fail
        go_ret
        exact ⟨rfl, hb⟩
      have hg9 : decide ((9000 : Int) < (S : Int)) = false := decide_eq_false (by omega)
      have hnd : ∀ x ∈ N, NdOk x := fun x hx => ⟨by have := HSS.out x (by rw [List.take_of_length_le (by rw [HM.out]; exact Nat.le_refl _)]; exact hx); omega, wf_le2 (HI.out x hx).2.2.2.1⟩
      have HND := Lib.hid hnd
      have hSw := HS.out.below hb
      obtain ⟨aN, aT, aM, hE, e9, e1, e10⟩ := hSw.errw
      have HE := Lib.hid hE
      have HV1 := Lib.hid (HV.out.below hb)
      have hNk := HM.out
      by_cases hbad : manyB N = true ∨ checkP N ≠ none
      · obtain ⟨code, ats, hats, hke⟩ := bad_err (N := N) e9 e1 e10 hbad
        have CB := Lib.hid (compile_bad A cp N aN aT aM w1 (by omega) hnd (HRD.out.below hb) hE hbad)
        rw [← hNk] at CB
        have HKE := Lib.hid hke
        have HATS := Lib.hid hats
        have HSW := Lib.hid hSw
        clear e9 e1 e10 hE hSw hnd hke hats hbad hNk hlt hk
        go_wp2_with fail
        refine CB.out.mono ?_
        rintro e w4 ⟨v1, rfl, hb4, hv1⟩
        unfold codeV
        obtain ⟨hE1, a1, hf1⟩ := HKE.out _ _ _ hv1
        obtain ⟨r0, r1, hb5⟩ := code_put w4 (.slice none 0 0) (.int .i64 0)
        have hE5 := hE1.below hb5
        have hb45 := hb4.trans (hb5.mono hb4.size)
        have CK := Lib.hid (check_v _ N aN aT aM _ (by have := HM.out; omega) HND.out (HV1.out.below hb45) (HE.out.below hb45))
        have HE1 := Lib.hid hE5
        clear hE1 hv1 hE5 CB r1
        obtain ⟨w5, hw5⟩ : ∃ w5, w5 = w4.alloc (.cells #[.slice none 0 0, .int .i64 0] 30) := ⟨_, rfl⟩
        rw [← hw5] at r0 CK HE1 hb45
        have HW5 := Lib.hid hw5
        clear hw5 hb5
        generalize hgg : w4.heap.size = gg at *
        have HGG := Lib.hid hgg
        clear hgg
        rcases hf1 with rfl | rfl
        all_goals
          go_wp2_with fail
          rw [HGG.out, ← HW5.out]
          refine CK.out.mono ?_
          rintro e w6 ⟨v2, rfl, hv2, hb6⟩
          obtain ⟨hE2, a2, hf2⟩ := HKE.out _ _ _ hv2
          have hb16 := hb45.trans (hb6.mono hb45.size)
          have FF := Lib.hid (seefault_any L w6 v2 code ats (HSW.out.below hb16) hE2)
          have HE6 := Lib.hid (HE1.out.below hb6)
          have r6 := cell_keep hb6 r0
          clear hE2 hv2
          rcases hf2 with rfl | rfl
          all_goals
            go_wp2_with fail
            refine FF.out.mono ?_
            rintro e w7 ⟨u, rfl, hu, hb7⟩
            have hb17 := hb16.trans (hb7.mono hb16.size)
            have SS := Lib.hid (seesame_any L w7 _ u code code ats ats (HSW.out.below hb17) (HE6.out.below hb7) hu.v HATS.out)
            rw [show (code == code && SameI ats ats) = true by simp [(SameI_iff ats ats).2 rfl]] at SS
            have r7 := cell_keep hb7 r6
            clear FF hu
            go_wp2_with fail
            refine SS.out.mono ?_
            rintro e w8 ⟨rfl, hb8⟩
            have r8 := cell_keep hb8 r7
            have hb18 := hb17.trans (hb8.mono hb17.size)
            go_wp2_with fail
            go_ret
            exact ⟨rfl, hb.trans (hb18.mono hb.size)⟩
      · have hmb : manyB N = false := by
          cases hq : manyB N
          · rfl
          · exact absurd (.inl hq) hbad
        have hck : checkP N = none := by
          cases hq : checkP N with
          | none => rfl
          | some z => exact absurd (.inr (by rw [hq]; simp)) hbad
        have h0 : N.length ≠ 0 := by
          intro h0
          rw [manyB, h0] at hmb
          simp at hmb
        obtain ⟨t, ht1, ht2⟩ := (check_tree N h0).1 hck
        subst ht2
        have hdl := heightT_len t
        have CC := Lib.hid (compile_ok A cp t aN aT aM w1 (by omega) hnd (HRD.out.below hb) (by rw [HM.out] at HV1; exact HV1.out) hE ht1)
        rw [← hNk] at CC
        have CN := Lib.hid (fun W (hW : Below w1.heap.size w1 W) => check_ok (.slice A k cp) t L W ht1 (by omega) hnd (HV1.out.below hW) (hSw.below hW))
        have HH := Lib.hid (fun W (hW : Below w1.heap.size w1 W) => height_any 4000000 t (.slice A k cp) W (by omega) (Nat.le_refl _) (HV1.out.below hW))
        have HTL := Lib.hid (show heightT t ≤ k by omega)
        have HFL := Lib.hid (show (flat t).length ≤ 200 by omega)
        clear e9 e1 e10 hE hSw hnd hbad hNk hlt hk hmb hck h0 ht1 hdl
        go_wp2_with fail
        refine CC.out.mono ?_
        rintro e w4 ⟨A2, c, X, st, rfl, hb4, ho, hg2⟩
        have hx := code_rd ho
        obtain ⟨j, hj⟩ : ∃ j, X.length = j + 1 := ⟨X.length - 1, by have := hg2.pos; omega⟩
        have hl := hg2.len
        have hst := hg2.st
        obtain ⟨b, o, rfl, hlt2, c41⟩ := code_last hx hj hg2.last
        have h200f := HFL.out
        have hk3 := HTL.out
        have HX := Lib.hid (show ∀ W, Below w4.heap.size w4 W → Calls Tryd.prog 13 #[.agg #[.slice (some ⟨b, o, none⟩) (j + 1) c, .int .i64 st]] W (Ret W .nilIface) from fun W hW => by
          have := ccheck_ok (some ⟨b, o, none⟩) c st X W (by omega) (by omega) (by omega) hg2.ok hg2.last (hx.below hW)
          rw [hj] at this
          exact this)
        unfold codeV
        rw [hj]
        have hj9 : j ≤ 2000 := by omega
        obtain ⟨r0, r1, hb5⟩ := code_put w4 (.slice (some ⟨b, o, none⟩) (j + 1) c) (.int .i64 st)
        have hb45 := hb4.trans (hb5.mono hb4.size)
        have c45 := cell_keep hb5 c41
        have CN5 := Lib.hid (CN.out _ hb45)
        have HX5 := Lib.hid (fun W (hW : Below (w4.alloc (.cells #[.slice (some ⟨b, o, none⟩) (j + 1) c, .int .i64 st] 30)).heap.size (w4.alloc (.cells #[.slice (some ⟨b, o, none⟩) (j + 1) c, .int .i64 st] 30)) W) => HX.out W (hb5.trans (hW.mono hb5.size)))
        have HB5 := Lib.hid hb45
        obtain ⟨w5, hw5⟩ : ∃ w5, w5 = w4.alloc (.cells #[.slice (some ⟨b, o, none⟩) (j + 1) c, .int .i64 st] 30) := ⟨_, rfl⟩
        rw [← hw5] at r0 r1 c45 CN5 HX5 HB5
        have HW5 := Lib.hid hw5
        have hgl : w4.heap.size < w5.heap.size := by rw [hw5]; simp
        clear hw5 hb5 hb45 c41 hx ho hg2 hl CC CN HX hb4 hj h200f
        generalize hgg : w4.heap.size = gg at *
        have HGG := Lib.hid hgg
        clear hgg
        go_wp2_with fail
        rw [HGG.out, ← HW5.out]
        refine CN5.out.mono ?_
        rintro e w6 ⟨rfl, hb6⟩
        have l0 := Later.cell (cell_keep hb6 r0)
        have l1 := Later.cell (cell_keep hb6 r1)
        have l2 := Later.cell (cell_keep hb6 c45)
        have hb16 := HB5.out.trans (hb6.mono HB5.out.size)
        have HX6 := Lib.hid (fun W (hW : Below w6.heap.size w6 W) => HX5.out W (hb6.trans (hW.mono hb6.size)))
        have HH6 := Lib.hid (fun W (hW : Below w6.heap.size w6 W) => HH.out W (hb16.trans (hW.mono hb16.size)))
        have HB6 := Lib.hid (hb.trans (hb16.mono hb.size))
        obtain ⟨D, hD⟩ : ∃ D, D = heightT t := ⟨_, rfl⟩
        rw [← hD] at HH6 hst hk3
        clear hD HTL HH HX5 CN5 r0 r1 c45 hb6 hb16
        have d0 : decide ((0 : Int) < (j : Int) + 1) = true := decide_eq_true (by omega)
        have d1 : decide ((st : Int) ≤ (D : Int)) = true := decide_eq_true (by omega)
        have d1' : decide (st ≤ D) = true := decide_eq_true (by omega)
        have d2 : decide ((D : Int) ≤ (k : Int)) = true := decide_eq_true (by omega)
        have d2' : decide (D ≤ k) = true := decide_eq_true (by omega)
        have d3 : decide ((j : Int) + 1 ≤ 9000) = true := decide_eq_true (by omega)
        go_upto_region 15 with (fail)
        refine wp_region_eq (by kernel_rfl) (by kernel_rfl) ?_
        apply EqGo.run
        focus
          kernel_rfl
        focus
          intro x K hK
          go_wp2_with fail
          first | exact hK x (Below.refl _ _) | exact Below.refl _ _
        simp only [Act.put, List.setIfInBounds_toArray, List.set_cons_succ, List.set_cons_zero]
        apply EqGo.run
        focus
          kernel_rfl
        focus
          intro x K hK
          go_wp2_with fail
          first | exact hK x (Below.refl _ _) | exact Below.refl _ _
        simp only [Act.put, List.setIfInBounds_toArray, List.set_cons_succ, List.set_cons_zero]
        apply EqGo.run
        focus
          kernel_rfl
        focus
          intro x K hK
          go_wp2_with fail
          first | exact hK x (Below.refl _ _) | exact Below.refl _ _
        simp only [Act.put, List.setIfInBounds_toArray, List.set_cons_succ, List.set_cons_zero]
        apply EqGo.run
        focus
          kernel_rfl
        focus
          intro x K hK
          go_wp2_with fail
          first | exact hK x (Below.refl _ _) | exact Below.refl _ _
        simp only [Act.put, List.setIfInBounds_toArray, List.set_cons_succ, List.set_cons_zero]
        apply EqGo.run
        focus
          kernel_rfl
        focus
          intro x K hK
          go_wp2_with fail
          first | exact hK x (Below.refl _ _) | exact Below.refl _ _
        simp only [Act.put, List.setIfInBounds_toArray, List.set_cons_succ, List.set_cons_zero]
        apply EqGo.run
        focus
          kernel_rfl
        focus
          intro x K hK
          go_wp2_with fail
          first | exact hK x (Below.refl _ _) | exact Below.refl _ _
        simp only [Act.put, List.setIfInBounds_toArray, List.set_cons_succ, List.set_cons_zero]
        apply EqGo.run
        focus
          kernel_rfl
        focus
          intro x K hK
          go_wp2_with fail
          first | exact hK x (Below.refl _ _) | exact Below.refl _ _
        simp only [Act.put, List.setIfInBounds_toArray, List.set_cons_succ, List.set_cons_zero]
        apply EqGo.run
        focus
          kernel_rfl
        focus
          intro x K hK
          go_wp2_with fail
          first | exact hK x (Below.refl _ _) | exact Below.refl _ _
        simp only [Act.put, List.setIfInBounds_toArray, List.set_cons_succ, List.set_cons_zero]
        apply EqGo.run
        focus
          kernel_rfl
        focus
          intro x K hK
          go_wp2_with fail
          first | exact hK x (Below.refl _ _) | exact Below.refl _ _
        simp only [Act.put, List.setIfInBounds_toArray, List.set_cons_succ, List.set_cons_zero]
        apply EqGo.run
        focus
          kernel_rfl
        focus
          intro x K hK
          go_wp2_with fail
          first | exact hK x (Below.refl _ _) | exact Below.refl _ _
        simp only [Act.put, List.setIfInBounds_toArray, List.set_cons_succ, List.set_cons_zero]
        apply EqGo.run
        focus
          kernel_rfl
        focus
          intro x K hK
          go_wp2_with fail
          refine (Hid.out HX6 x.val x.below).mono ?_
          rintro e x' ⟨rfl, hb'⟩
          exact hK ⟨x', x.below.trans (hb'.mono x.below.size)⟩ hb'
        simp only [Act.put, List.setIfInBounds_toArray, List.set_cons_succ, List.set_cons_zero]
        apply EqGo.run
        focus
          kernel_rfl
        focus
          intro x K hK
          go_wp2_with fail
          first | exact hK x (Below.refl _ _) | exact Below.refl _ _
        simp only [Act.put, List.setIfInBounds_toArray, List.set_cons_succ, List.set_cons_zero]
        apply EqGo.run
        focus
          kernel_rfl
        focus
          intro x K hK
          go_wp2_with fail
          first | exact hK x (Below.refl _ _) | exact Below.refl _ _
        simp only [Act.put, List.setIfInBounds_toArray, List.set_cons_succ, List.set_cons_zero]
        apply EqGo.run
        focus
          kernel_rfl
        focus
          intro x K hK
          go_wp2_with fail
          first | exact hK x (Below.refl _ _) | exact Below.refl _ _
        simp only [Act.put, List.setIfInBounds_toArray, List.set_cons_succ, List.set_cons_zero]
        apply EqGo.run
        focus
          kernel_rfl
        focus
          intro x K hK
          go_wp2_with fail
          first | exact hK x (Below.refl _ _) | exact Below.refl _ _
        simp only [Act.put, List.setIfInBounds_toArray, List.set_cons_succ, List.set_cons_zero]
        apply EqGo.run
        focus
          kernel_rfl
        focus
          intro x K hK
          go_wp2_with fail
          first | exact hK x (Below.refl _ _) | exact Below.refl _ _
        simp only [Act.put, List.setIfInBounds_toArray, List.set_cons_succ, List.set_cons_zero]
        apply EqGo.run
        focus
          kernel_rfl
        focus
          intro x K hK
          go_wp2_with fail
          first | exact hK x (Below.refl _ _) | exact Below.refl _ _
        simp only [Act.put, List.setIfInBounds_toArray, List.set_cons_succ, List.set_cons_zero]
        apply EqGo.run
        focus
          kernel_rfl
        focus
          intro x K hK
          go_wp2_with fail
          first | exact hK x (Below.refl _ _) | exact Below.refl _ _
        simp only [Act.put, List.setIfInBounds_toArray, List.set_cons_succ, List.set_cons_zero]
        apply EqGo.run
        focus
          kernel_rfl
        focus
          intro x K hK
          go_wp2_with fail
          first | exact hK x (Below.refl _ _) | exact Below.refl _ _
        simp only [Act.put, List.setIfInBounds_toArray, List.set_cons_succ, List.set_cons_zero]
        apply EqGo.run
        focus
          kernel_rfl
        focus
          intro x K hK
          go_wp2_with fail
          first | exact hK x (Below.refl _ _) | exact Below.refl _ _
        simp only [Act.put, List.setIfInBounds_toArray, List.set_cons_succ, List.set_cons_zero]
        apply EqGo.run
        focus
          kernel_rfl
        focus
          intro x K hK
          go_wp2_with fail
          first | exact hK x (Below.refl _ _) | exact Below.refl _ _
        simp only [Act.put, List.setIfInBounds_toArray, List.set_cons_succ, List.set_cons_zero]
        apply EqGo.run
        focus
          kernel_rfl
        focus
          intro x K hK
          go_wp2_with fail
          first | exact hK x (Below.refl _ _) | exact Below.refl _ _
        simp only [Act.put, List.setIfInBounds_toArray, List.set_cons_succ, List.set_cons_zero]
        apply EqGo.run
        focus
          kernel_rfl
        focus
          intro x K hK
          go_wp2_with fail
          first | exact hK x (Below.refl _ _) | exact Below.refl _ _
        simp only [Act.put, List.setIfInBounds_toArray, List.set_cons_succ, List.set_cons_zero]
        apply EqGo.run
        focus
          kernel_rfl
        focus
          intro x K hK
          go_wp2_with fail
          first | exact hK x (Below.refl _ _) | exact Below.refl _ _
        simp only [Act.put, List.setIfInBounds_toArray, List.set_cons_succ, List.set_cons_zero]
        apply EqGo.run
        focus
          kernel_rfl
        focus
          intro x K hK
          go_wp2_with fail
          first | exact hK x (Below.refl _ _) | exact Below.refl _ _
        simp only [Act.put, List.setIfInBounds_toArray, List.set_cons_succ, List.set_cons_zero]
        apply EqGo.run
        focus
          kernel_rfl
        focus
          intro x K hK
          go_wp2_with fail
          first | exact hK x (Below.refl _ _) | exact Below.refl _ _
        simp only [Act.put, List.setIfInBounds_toArray, List.set_cons_succ, List.set_cons_zero]
        apply EqGo.run
        focus
          kernel_rfl
        focus
          intro x K hK
          go_wp2_with fail
          first | exact hK x (Below.refl _ _) | exact Below.refl _ _
        simp only [Act.put, List.setIfInBounds_toArray, List.set_cons_succ, List.set_cons_zero]
        apply EqGo.run
        focus
          kernel_rfl
        focus
          intro x K hK
          go_wp2_with fail
          first | exact hK x (Below.refl _ _) | exact Below.refl _ _
        simp only [Act.put, List.setIfInBounds_toArray, List.set_cons_succ, List.set_cons_zero]
        apply EqGo.run
        focus
          kernel_rfl
        focus
          intro x K hK
          go_wp2_with fail
          first | exact hK x (Below.refl _ _) | exact Below.refl _ _
        simp only [Act.put, List.setIfInBounds_toArray, List.set_cons_succ, List.set_cons_zero]
        apply EqGo.run
        focus
          kernel_rfl
        focus
          intro x K hK
          go_wp2_with fail
          refine (Hid.out HH6 x.val x.below).mono ?_
          rintro e x' ⟨rfl, hb'⟩
          exact hK ⟨x', x.below.trans (hb'.mono x.below.size)⟩ hb'
        simp only [Act.put, List.setIfInBounds_toArray, List.set_cons_succ, List.set_cons_zero]
        apply EqGo.run
        focus
          kernel_rfl
        focus
          intro x K hK
          go_wp2_with fail
          first | exact hK x (Below.refl _ _) | exact Below.refl _ _
        simp only [Act.put, List.setIfInBounds_toArray, List.set_cons_succ, List.set_cons_zero]
        apply EqGo.run
        focus
          kernel_rfl
        focus
          intro x K hK
          go_wp2_with fail
          first | exact hK x (Below.refl _ _) | exact Below.refl _ _
        simp only [Act.put, List.setIfInBounds_toArray, List.set_cons_succ, List.set_cons_zero]
        apply EqGo.run
        focus
          kernel_rfl
        focus
          intro x K hK
          go_wp2_with fail
          first | exact hK x (Below.refl _ _) | exact Below.refl _ _
        simp only [Act.put, List.setIfInBounds_toArray, List.set_cons_succ, List.set_cons_zero]
        apply EqGo.run
        focus
          kernel_rfl
        focus
          intro x K hK
          go_wp2_with fail
          first | exact hK x (Below.refl _ _) | exact Below.refl _ _
        simp only [Act.put, List.setIfInBounds_toArray, List.set_cons_succ, List.set_cons_zero]
        apply EqGo.run
        focus
          kernel_rfl
        focus
          intro x K hK
          go_wp2_with fail
          refine (Hid.out HH6 x.val x.below).mono ?_
          rintro e x' ⟨rfl, hb'⟩
          exact hK ⟨x', x.below.trans (hb'.mono x.below.size)⟩ hb'
        simp only [Act.put, List.setIfInBounds_toArray, List.set_cons_succ, List.set_cons_zero]
        apply EqGo.run
        focus
          kernel_rfl
        focus
          intro x K hK
          go_wp2_with fail
          first | exact hK x (Below.refl _ _) | exact Below.refl _ _
        simp only [Act.put, List.setIfInBounds_toArray, List.set_cons_succ, List.set_cons_zero]
        apply EqGo.run
        focus
          kernel_rfl
        focus
          intro x K hK
          go_wp2_with fail
          first | exact hK x (Below.refl _ _) | exact Below.refl _ _
        simp only [Act.put, List.setIfInBounds_toArray, List.set_cons_succ, List.set_cons_zero]
        apply EqGo.run
        focus
          kernel_rfl
        focus
          intro x K hK
          go_wp2_with fail
          first | exact hK x (Below.refl _ _) | exact Below.refl _ _
        simp only [Act.put, List.setIfInBounds_toArray, List.set_cons_succ, List.set_cons_zero]
        apply EqGo.run
        focus
          kernel_rfl
        focus
          intro x K hK
          go_wp2_with fail
          first | exact hK x (Below.refl _ _) | exact Below.refl _ _
        simp only [Act.put, List.setIfInBounds_toArray, List.set_cons_succ, List.set_cons_zero]
        apply EqGo.run
        focus
          kernel_rfl
        focus
          intro x K hK
          go_wp2_with fail
          first | exact hK x (Below.refl _ _) | exact Below.refl _ _
        simp only [Act.put, List.setIfInBounds_toArray, List.set_cons_succ, List.set_cons_zero]
        apply EqGo.run
        focus
          kernel_rfl
        focus
          intro x K hK
          go_wp2_with fail
          first | exact hK x (Below.refl _ _) | exact Below.refl _ _
        simp only [Act.put, List.setIfInBounds_toArray, List.set_cons_succ, List.set_cons_zero]
        apply EqGo.run
        focus
          kernel_rfl
        focus
          intro x K hK
          go_wp2_with fail
          first | exact hK x (Below.refl _ _) | exact Below.refl _ _
        simp only [Act.put, List.setIfInBounds_toArray, List.set_cons_succ, List.set_cons_zero]
        apply EqGo.run
        focus
          kernel_rfl
        focus
          intro x K hK
          go_wp2_with fail
          first | exact hK x (Below.refl _ _) | exact Below.refl _ _
        simp only [Act.put, List.setIfInBounds_toArray, List.set_cons_succ, List.set_cons_zero]
        apply EqGo.run
        focus
          kernel_rfl
        focus
          intro x K hK
          go_wp2_with fail
          first | exact hK x (Below.refl _ _) | exact Below.refl _ _
        simp only [Act.put, List.setIfInBounds_toArray, List.set_cons_succ, List.set_cons_zero]
        apply EqGo.run
        focus
          kernel_rfl
        focus
          intro x K hK
          go_wp2_with fail
          first | exact hK x (Below.refl _ _) | exact Below.refl _ _
        simp only [Act.put, List.setIfInBounds_toArray, List.set_cons_succ, List.set_cons_zero]
        apply EqGo.run
        focus
          kernel_rfl
        focus
          intro x K hK
          go_wp2_with fail
          first | exact hK x (Below.refl _ _) | exact Below.refl _ _
        simp only [Act.put, List.setIfInBounds_toArray, List.set_cons_succ, List.set_cons_zero]
        intro x
        have hbx := HB6.out.trans (x.below.mono HB6.out.size)
        go_wp2_with fail
        go_ret
        exact ⟨rfl, hbx⟩
end Go.Proofs.YthmeonimianoeaaDoor
