/- StoreFuns: whatever names and nodes are handed in, the law answers true. No condition. -/
import Derived.Test.YtclifaehbdeldaaStoF
import Derived.Test.YtclifaehbdeldaaRelC
import Derived.Test.YtclifaehbdeldaaStoN
import Derived.Test.YtclifaehbdeldaaStoFL
import Derived.Outline
import Derived.BigQuiet
set_option linter.unusedVariables false
set_option linter.unusedSimpArgs false
namespace Go.Proofs.Ytclifaehbdeldaa
open Go.RowKit Go.Maps Go.Sort

set_option maxRecDepth 100000 in
set_option maxHeartbeats 8000000 in
theorem stofuns_walk (A0 : Option Addr) (c0 : Nat) (ns : List Txt) (A1 : Option Addr) (c1 : Nat) (l : List Nd) (w : World) (hn : TxR w (.slice A0 ns.length c0) ns) (hl : SlRd w (.slice A1 l.length c1) l) (hnb : ∀ n ∈ ns, n.length ≤ maxLen) :
    Calls Try.prog 5 #[.slice A0 ns.length c0, .slice A1 l.length c1] w (Ret w (.bool true)) := by
  obtain ⟨i0, hi, hz0, hz1, hz2⟩ := info_parts infoNode
  obtain ⟨n, hnn⟩ : ∃ n, n = ns.length := ⟨_, rfl⟩
  obtain ⟨m, hm⟩ : ∃ m, m = l.length := ⟨_, rfl⟩
  rw [← hnn] at hn
  rw [← hm] at hl
  rw [← hnn, ← hm]
  have HN := Lib.hid hnn
  have HM := Lib.hid hm
  have HNS := Lib.hid hn
  have HLR := Lib.hid hl
  have HNB := Lib.hid hnb
  clear hnn hm hn hl hnb
  go_enter Try.func5, Try.ntmps5
  go_wp2_with fail
  refine (first7_any w).mono ?_
  rintro e w1 ⟨rfl, hb⟩
  by_cases h30 : 30 < n
  · go_wp2_with fail
    go_ret
    exact ⟨rfl, hb⟩
  have h30' : decide ((30 : Int) < n) = false := decide_eq_false (by omega)
  by_cases h10 : 10 < m
  · go_wp2_with fail
    go_ret
    exact ⟨rfl, hb⟩
  have h10' : decide ((10 : Int) < m) = false := decide_eq_false (by omega)
  have HNW := Lib.hid (new_any (.slice none 0 0) [] w1 (ValR.nil w1) (by decide) (fun p h => by cases h))
  go_wp2_with fail
  refine HNW.out.mono ?_
  rintro e w2 ⟨st, vb, fb, rfl, hI2, hst, hvb, hfb, hb2⟩
  have HI2 := Lib.hid (show StI w2 st vb fb 0 (newS []) (fsF l ns 0) from hI2)
  have HSG := Lib.hid (show ∀ q ∈ [st, vb, fb], w.heap.size ≤ q from fun q hq => by
    have := hb.size
    simp only [List.mem_cons, List.not_mem_nil, or_false] at hq
    omega)
  have HB2 := Lib.hid (hb.trans (hb2.mono hb.size))
  have hm10 : m ≤ 10 := by omega
  have hn30 : n ≤ 30 := by omega
  clear hI2 hst hvb hfb hb2 hb HNW h30 h30' h10 h10'
  go_wp2_with fail
  go_loopw [7] (fun i wr => ∃ k : Nat, k ≤ n ∧ i = .int .i64 k ∧ Hid (StI wr st vb fb k (newS []) (fsF l ns k)) ∧ Below w.heap.size w wr) (fun i _ => n - (intOf i).toNat)
  case atStart => exact ⟨0, Nat.zero_le _, rfl, HI2, HB2.out⟩
  case round =>
    obtain ⟨k, hk, rfl, HI, hbr⟩ := hrel
    by_cases hlt : k < n
    · have hkn : k < ns.length := by rw [← HN.out]; exact hlt
      obtain ⟨_, _, he, hnr, -⟩ := HNS.out
      injection he with he1 he2 he3
      subst he1 he3
      clear he2
      obtain ⟨bn, on, rfl, hbn, hcn⟩ := hnr k hkn
      have cn := hcn 0 _ rfl
      simp only [Nat.mul_one, Nat.add_zero] at cn
      obtain ⟨nm, hnm⟩ : ∃ nm, nm = ns[k] := ⟨_, rfl⟩
      rw [← hnm] at cn
      have HG := Lib.hid (show ns.getD k [] = nm by rw [List.getD_eq_getElem?_getD, List.getElem?_eq_getElem hkn, ← hnm]; rfl)
      have HNL := Lib.hid (HNB.out nm (by rw [hnm]; exact List.getElem_mem _))
      have HND := Lib.hid (nodesS_any (.slice A1 m c1) l wr (HLR.out.below hbr) (by rw [← HM.out]; omega))
      have HCN := Lib.hid cn
      clear hcn hnr hnm hkn hbn cn
      go_wp2_with fail
      refine HND.out.mono ?_
      rintro e w3 ⟨v3, rfl, ⟨A3, c3, rfl, ho3⟩, hb3⟩
      rw [← HM.out] at ho3 ⊢
      have hsz3 := hb3.size
      have HB3 := Lib.hid hb3
      clear HND hb3
      go_upto_region 11 with (at_builtin; refine wpList_push rfl _ _ _ rfl Try.underlying56 hi hz0 hz1 hz2 rfl (by decide) ho3 rfl rfl rfl (by simp [Value.oneCell']) (by omega) (by decide) hsz3 ?_; intro A4 c4 w4 hown4 hb4 hoo4)
      have hb34 := HB3.out.trans hb4
      have HI4 := Lib.hid (HI.out.below hb34)
      have HP4 := Lib.hid (show SlRd w4 (.slice A4 (m + 1) c4) (l ++ [nopN k]) from SlRd.of_own (base := wr.heap.size) (by rw [List.flatMap_append]; exact hown4) (by rw [HM.out, List.length_append]; rfl))
      have hbr4 := hbr.trans (hb34.mono hbr.size)
      have HSF := Lib.hid (fun (W : World) (hW : Below w4.heap.size w4 W) => setfun_any st vb fb k (newS []) (fsF l ns k) nm (.slice A4 (m + 1) c4) (l ++ [nopN k]) W (HI4.out.below hW) (by omega) HNL.out (HP4.out.below hW) (by rw [List.length_append, ← HM.out, List.length_cons, List.length_nil]; omega))
      rw [show putA nm (l ++ [nopN k]) (fsF l ns k) = fsF l ns (k + 1) by rw [fsF, HG.out]] at HSF
      have cn4 := cell_keep hbr4 HCN.out
      clear ho3 hsz3 HB3 hown4 hb4 hoo4 hb34 HI4 HP4 HI hbr HCN
      have l0 := Later.cell cn4
      refine wp_region_mid 8 _ rfl rfl (by kernel_rfl) (by kernel_rfl) (by kernel_rfl) ?_
      apply EqGo.run
      focus
        kernel_rfl
      focus
        intro x K hK
        go_wp2_with fail
        first | exact hK x (Below.refl _ _) | exact Below.refl _ _
      simp only [Act.put, List.setIfInBounds_toArray, List.set_cons_succ, List.set_cons_zero]
      apply EqGo.run
      focus
        kernel_rfl
      focus
        intro x K hK
        go_wp2_with fail
        first | exact hK x (Below.refl _ _) | exact Below.refl _ _
      simp only [Act.put, List.setIfInBounds_toArray, List.set_cons_succ, List.set_cons_zero]
      apply EqGo.run
      focus
        kernel_rfl
      focus
        intro x K hK
        go_wp2_with fail
        first | exact hK x (Below.refl _ _) | exact Below.refl _ _
      simp only [Act.put, List.setIfInBounds_toArray, List.set_cons_succ, List.set_cons_zero]
      apply EqGo.run
      focus
        kernel_rfl
      focus
        intro x K hK
        go_wp2_with fail
        first | exact hK x (Below.refl _ _) | exact Below.refl _ _
      simp only [Act.put, List.setIfInBounds_toArray, List.set_cons_succ, List.set_cons_zero]
      apply EqGo.run
      focus
        kernel_rfl
      focus
        intro x K hK
        go_wp2_with fail
        first | exact hK x (Below.refl _ _) | exact Below.refl _ _
      simp only [Act.put, List.setIfInBounds_toArray, List.set_cons_succ, List.set_cons_zero]
      apply EqGo.run
      focus
        kernel_rfl
      focus
        intro x K hK
        go_wp2_with fail
        first | exact hK x (Below.refl _ _) | exact Below.refl _ _
      simp only [Act.put, List.setIfInBounds_toArray, List.set_cons_succ, List.set_cons_zero]
      apply EqGo.run
      focus
        kernel_rfl
      focus
        intro x K hK
        go_wp2_with fail
        first | exact hK x (Below.refl _ _) | exact Below.refl _ _
      simp only [Act.put, List.setIfInBounds_toArray, List.set_cons_succ, List.set_cons_zero]
      apply EqGo.run
      focus
        kernel_rfl
      focus
        intro x K hK
        go_wp2_with fail
        first | exact hK x (Below.refl _ _) | exact Below.refl _ _
      simp only [Act.put, List.setIfInBounds_toArray, List.set_cons_succ, List.set_cons_zero]
      intro y K hK
      have HSY := Lib.hid (HSF.out y.val y.below)
      have hby := hbr4.trans (y.below.mono hbr4.size)
      clear HSF cn4 l0 hbr4
      go_wp2_with fail
      refine HSY.out.mono ?_
      rintro e w5 ⟨rfl, hI5, hb5⟩
      have HI5 := Lib.hid hI5
      have hbr5 := hby.trans (hb5.below HSG.out hby.size)
      clear hI5 hb5 HSY hby
      refine hK _ _ ?_
      clear hK K
      simp only [Act.put, List.setIfInBounds_toArray, List.set_cons_succ, List.set_cons_zero]
      intro y2
      replace HI5 := Lib.hid (HI5.out.below y2.below)
      replace hbr5 := hbr5.trans (y2.below.mono hbr5.size)
      generalize y2.val = w6 at *
      clear y2
      go_wp2_with fail
      go_roundw
      case rel => exact ⟨k + 1, by omega, by go_num, HI5, hbr5⟩
      case measure => simp [intOf]; omega
    · obtain rfl : k = n := by omega
      clear hlt hk HI2 HB2
      generalize wr = wa at *
      have HF := Lib.hid (funs_any st vb fb k (newS []) (fsF l ns k) wa HI.out (by omega))
      go_wp2_with fail
      refine HF.out.mono ?_
      rintro e w3 ⟨v3, rfl, ⟨A3, c3, rfl, ho3⟩, hb3⟩
      obtain ⟨F, hF⟩ : ∃ F, F = (fsF l ns k).map Prod.fst := ⟨_, rfl⟩
      rw [← hF] at ho3 ⊢
      obtain ⟨f, hf⟩ : ∃ f, f = F.length := ⟨_, rfl⟩
      rw [← hf] at ho3 ⊢
      have hfk : f ≤ k := by rw [hf, hF, List.length_map]; exact fs_len _ _ _
      obtain ⟨A', c', he, _, _, hrf, _⟩ := RdL.of_own strc_len ho3 hf
      injection he with he1 _ _
      subst he1
      have HRF := Lib.hid hrf
      have HI3 := Lib.hid (HI.out.below hb3)
      have hb3' := hbr.trans (hb3.mono hbr.size)
      have HFE := Lib.hid hf
      have HFF := Lib.hid hF
      clear ho3 hf hF hrf HF HI hb3 hbr
      have HFA := Lib.hid (fun (s : Txt) (hs : s.length ≤ maxLen) (W : World) (hW : Below w3.heap.size w3 W) => fun_any st vb fb k (newS []) (fsF l ns k) s W (HI3.out.below hW) (fs_sm (by rw [← HM.out]; exact hm10) ns k) hs)
      go_wp2_with fail
      go_loopw [10] (fun i wr2 => ∃ q : Nat, q ≤ f ∧ i = .int .i64 q ∧ Below w3.heap.size w3 wr2) (fun i _ => f - (intOf i).toNat)
      case atStart => exact ⟨0, Nat.zero_le _, rfl, Below.refl _ _⟩
      case round =>
        obtain ⟨q, hq, rfl, hbq⟩ := hrel
        generalize wr = wk at *
        by_cases hlt : q < f
        · have hqF : q < F.length := by rw [← HFE.out]; exact hlt
          obtain ⟨bf, of, rfl, _, hcf⟩ := (HRF.out.below hbq) q hqF
          have cf := hcf 0 _ rfl
          simp only [Nat.mul_one, Nat.add_zero] at cf
          obtain ⟨s, hs⟩ : ∃ s, s = F[q] := ⟨_, rfl⟩
          rw [← hs] at cf
          obtain ⟨j, hj, hget⟩ := fs_at l ns k (s := s) (by rw [hs, ← HFF.out]; exact List.getElem_mem _)
          obtain ⟨hjk, hsj⟩ := last_at ns s k j hj
          have hsl : s.length ≤ maxLen := by
            rw [hsj, List.getD_eq_getElem?_getD, List.getElem?_eq_getElem (by rw [← HN.out]; exact hjk)]
            exact HNB.out _ (List.getElem_mem _)
          have HRS := Lib.hid (show ∀ h : 0 < q, F[q - 1]'(by omega) < s from fun h => by
            have h1 := fs_rise l ns k (q - 1) (by rw [← HFF.out]; omega)
            rw [hs]
            simp only [← HFF.out, Nat.sub_add_cancel (show 1 ≤ q from h)] at h1
            exact h1)
          have HFN := Lib.hid (HFA.out s hsl)
          rw [hget] at HFN
          have HJ := Lib.hid hj
          have l0 := Later.cell cf
          clear hcf hs hget hsj hsl hj
          go_upto_region 16 with (fail)
          refine wp_region_mid 7 _ rfl rfl (by kernel_rfl) (by kernel_rfl) (by kernel_rfl) ?_
          apply EqGo.run
          focus
            kernel_rfl
          focus
            intro x K hK
            go_wp2_with fail
            first | exact hK x (Below.refl _ _) | exact Below.refl _ _
          simp only [Act.put, List.setIfInBounds_toArray, List.set_cons_succ, List.set_cons_zero]
          apply EqGo.run
          focus
            kernel_rfl
          focus
            intro x K hK
            go_wp2_with fail
            first | exact hK x (Below.refl _ _) | exact Below.refl _ _
          simp only [Act.put, List.setIfInBounds_toArray, List.set_cons_succ, List.set_cons_zero]
          apply EqGo.run
          focus
            kernel_rfl
          focus
            intro x K hK
            go_wp2_with fail
            first | exact hK x (Below.refl _ _) | exact Below.refl _ _
          simp only [Act.put, List.setIfInBounds_toArray, List.set_cons_succ, List.set_cons_zero]
          apply EqGo.run
          focus
            kernel_rfl
          focus
            intro x K hK
            go_wp2_with fail
            first | exact hK x (Below.refl _ _) | exact Below.refl _ _
          simp only [Act.put, List.setIfInBounds_toArray, List.set_cons_succ, List.set_cons_zero]
          apply EqGo.run
          focus
            kernel_rfl
          focus
            intro x K hK
            go_wp2_with fail
            first | exact hK x (Below.refl _ _) | exact Below.refl _ _
          simp only [Act.put, List.setIfInBounds_toArray, List.set_cons_succ, List.set_cons_zero]
          apply EqGo.run
          focus
            kernel_rfl
          focus
            intro x K hK
            go_wp2_with fail
            first | exact hK x (Below.refl _ _) | exact Below.refl _ _
          simp only [Act.put, List.setIfInBounds_toArray, List.set_cons_succ, List.set_cons_zero]
          apply EqGo.run
          focus
            kernel_rfl
          focus
            intro x K hK
            go_wp2_with fail
            first | exact hK x (Below.refl _ _) | exact Below.refl _ _
          simp only [Act.put, List.setIfInBounds_toArray, List.set_cons_succ, List.set_cons_zero]
          intro y K hK
          have hby := hbq.trans (y.below.mono hbq.size)
          have HFY := Lib.hid (HFN.out y.val hby)
          have cfy := l0 y
          clear HFN l0 cf hbq
          go_wp2_with fail
          refine HFY.out.mono ?_
          rintro e w5 ⟨v5, rfl, h5, hb5⟩
          have HV5 := Lib.hid h5.rd
          have hb5' := hby.trans (hb5.mono hby.size)
          have cf5 := cell_keep hb5 cfy
          obtain ⟨A5, c5, rfl, -⟩ := h5
          rw [show ((l ++ [nopN j], true) : List Nd × Bool).1.length = m + 1 by rw [HM.out, List.length_append]; rfl] at HV5 ⊢
          clear hb5 HFY hby cfy
          refine hK _ _ ?_
          clear hK K
          simp only [Act.put, List.setIfInBounds_toArray, List.set_cons_succ, List.set_cons_zero]
          apply EqGo.run
          focus
            kernel_rfl
          focus
            intro x K hK
            go_wp2_with fail
            first | exact hK x (Below.refl _ _) | exact Below.refl _ _
          simp only [Act.put, List.setIfInBounds_toArray, List.set_cons_succ, List.set_cons_zero]
          apply EqGo.run
          focus
            kernel_rfl
          focus
            intro x K hK
            go_wp2_with fail
            first | exact hK x (Below.refl _ _) | exact Below.refl _ _
          simp only [Act.put, List.setIfInBounds_toArray, List.set_cons_succ, List.set_cons_zero]
          apply EqGo.run
          focus
            kernel_rfl
          focus
            intro x K hK
            go_wp2_with fail
            first | exact hK x (Below.refl _ _) | exact Below.refl _ _
          simp only [Act.put, List.setIfInBounds_toArray, List.set_cons_succ, List.set_cons_zero]
          apply EqGo.run
          focus
            kernel_rfl
          focus
            intro x K hK
            go_wp2_with fail
            first | exact hK x (Below.refl _ _) | exact Below.refl _ _
          simp only [Act.put, List.setIfInBounds_toArray, List.set_cons_succ, List.set_cons_zero]
          apply EqGo.run
          focus
            kernel_rfl
          focus
            intro x K hK
            go_wp2_with fail
            first | exact hK x (Below.refl _ _) | exact Below.refl _ _
          simp only [Act.put, List.setIfInBounds_toArray, List.set_cons_succ, List.set_cons_zero]
          intro y2
          replace HV5 := Lib.hid (HV5.out.below y2.below)
          replace hb5' := hb5'.trans (y2.below.mono hb5'.size)
          replace cf5 := cell_keep y2.below cf5
          generalize y2.val = w6 at *
          clear y2
          go_wp2_with fail
          have hszw := hb3'.trans (hb5'.mono hb3'.size)
          go_loopw [13, 14] (fun a b wi => ∃ r : Nat, r ≤ k ∧ a = .int .i64 (lastV (lastI ns s r)) ∧ b = .int .i64 r ∧ Below w6.heap.size w6 wi) (fun _ b _ => k - (intOf b).toNat)
          case atStart => exact ⟨0, Nat.zero_le _, rfl, rfl, Below.refl _ _⟩
          case round =>
            obtain ⟨r, hr, rfl, rfl, hbi⟩ := hrel
            generalize wr = wi at *
            by_cases hrk : r < k
            · have hrn : r < ns.length := by rw [← HN.out]; exact hrk
              obtain ⟨_, _, he, hnr, -⟩ := HNS.out
              injection he with he1 he2 he3
              subst he1 he3
              clear he2
              obtain ⟨bn, on, rfl, hbn, hcn⟩ := hnr r hrn
              have cn := hcn 0 _ rfl
              simp only [Nat.mul_one, Nat.add_zero] at cn
              obtain ⟨nm, hnm⟩ : ∃ nm, nm = ns[r] := ⟨_, rfl⟩
              rw [← hnm] at cn
              have HG := Lib.hid (show lastI ns s (r + 1) = if s = nm then some r else lastI ns s r by rw [lastI, hnm, List.getD_eq_getElem?_getD, List.getElem?_eq_getElem hrn]; rfl)
              have l0 := Later.cell (cell_keep (hszw.trans (hbi.mono hszw.size)) cn)
              have l1 := Later.cell (cell_keep hbi cf5)
              clear hcn hnr hnm hrn hbn cn
              go_upto_region 21 with (fail)
              refine wp_region_eq (by kernel_rfl) (by kernel_rfl) ?_
              apply EqGo.run
              focus
                kernel_rfl
              focus
                intro x K hK
                go_wp2_with fail
                first | exact hK x (Below.refl _ _) | exact Below.refl _ _
              simp only [Act.put, List.setIfInBounds_toArray, List.set_cons_succ, List.set_cons_zero]
              apply EqGo.run
              focus
                kernel_rfl
              focus
                intro x K hK
                go_wp2_with fail
                first | exact hK x (Below.refl _ _) | exact Below.refl _ _
              simp only [Act.put, List.setIfInBounds_toArray, List.set_cons_succ, List.set_cons_zero]
              apply EqGo.run
              focus
                kernel_rfl
              focus
                intro x K hK
                go_wp2_with fail
                first | exact hK x (Below.refl _ _) | exact Below.refl _ _
              simp only [Act.put, List.setIfInBounds_toArray, List.set_cons_succ, List.set_cons_zero]
              apply EqGo.run
              focus
                kernel_rfl
              focus
                intro x K hK
                go_wp2_with fail
                first | exact hK x (Below.refl _ _) | exact Below.refl _ _
              simp only [Act.put, List.setIfInBounds_toArray, List.set_cons_succ, List.set_cons_zero]
              apply EqGo.run
              focus
                kernel_rfl
              focus
                intro x K hK
                go_wp2_with fail
                first | exact hK x (Below.refl _ _) | exact Below.refl _ _
              simp only [Act.put, List.setIfInBounds_toArray, List.set_cons_succ, List.set_cons_zero]
              apply EqGo.run
              focus
                kernel_rfl
              focus
                intro x K hK
                go_wp2_with fail
                first | exact hK x (Below.refl _ _) | exact Below.refl _ _
              simp only [Act.put, List.setIfInBounds_toArray, List.set_cons_succ, List.set_cons_zero]
              apply EqGo.run
              focus
                kernel_rfl
              focus
                intro x K hK
                go_wp2_with fail
                first | exact hK x (Below.refl _ _) | exact Below.refl _ _
              simp only [Act.put, List.setIfInBounds_toArray, List.set_cons_succ, List.set_cons_zero]
              apply EqGo.run
              focus
                kernel_rfl
              focus
                intro x K hK
                go_wp2_with fail
                first | exact hK x (Below.refl _ _) | exact Below.refl _ _
              simp only [Act.put, List.setIfInBounds_toArray, List.set_cons_succ, List.set_cons_zero]
              apply EqGo.run
              focus
                kernel_rfl
              focus
                intro x K hK
                go_wp2_with fail
                first | exact hK x (Below.refl _ _) | exact Below.refl _ _
              simp only [Act.put, List.setIfInBounds_toArray, List.set_cons_succ, List.set_cons_zero]
              intro x
              have hbx := hbi.trans (x.below.mono hbi.size)
              clear l0 l1 hbi
              generalize x.val = wy at *
              clear x
              cases hsn : (nm == s)
              · replace HG := Lib.hid (show lastI ns s (r + 1) = lastI ns s r by rw [HG.out, if_neg (fun e => by rw [e] at hsn; simp at hsn)])
                go_wp2_with fail
                go_roundw
                case rel => exact ⟨r + 1, by omega, by rw [HG.out], by go_num, hbx⟩
                case measure => simp [intOf]; omega
              · replace HG := Lib.hid (show lastI ns s (r + 1) = some r by rw [HG.out, if_pos (beq_iff_eq.1 hsn).symm])
                go_wp2_with fail
                go_roundw
                case rel => exact ⟨r + 1, by omega, by rw [HG.out]; rfl, by go_num, hbx⟩
                case measure => simp [intOf]; omega
            · obtain rfl : r = k := by omega
              rw [HJ.out, show lastV (some j) = (j : Int) from rfl]
              obtain ⟨_, _, he, hrp, -⟩ := HV5.out
              injection he with he1 he2 he3
              subst he1 he3
              clear he2
              obtain ⟨bp, op, rfl, _, hcp⟩ := (hrp.below hbi) m (by rw [HM.out, List.length_append, List.length_cons]; omega)
              have cp := hcp 1 _ rfl
              rw [show (l ++ [nopN j])[m]'(by rw [HM.out, List.length_append, List.length_cons]; omega) = nopN j by simp [HM.out], show (nopN j).n = (j : Int) from rfl] at cp
              have hj0 : decide ((j : Int) < 0) = false := decide_eq_false (by omega)
              have ci := cell_keep hbi cf5
              have hlen : ((m : Int) + 1 != (m : Int) + 1) = false := by simp
              have hjj : ((j : Int) != (j : Int)) = false := by simp
              clear hcp hrp cf5
              by_cases hq0 : q = 0
              · subst hq0
                go_upto_region 23 with (fail)
                go_quiet (fail)
                go_wp2_with fail
                go_roundw
                case rel => exact ⟨0 + 1, by omega, by go_num, hb5'.trans ((below_drewN hbi _).mono hb5'.size)⟩
                case measure => simp [intOf]; omega
              · obtain ⟨p, rfl⟩ : ∃ p, q = p + 1 := ⟨q - 1, by omega⟩
                obtain ⟨_, _, he, _, hcg⟩ := HRF.out p (by rw [← HFE.out]; omega)
                injection he with he
                injection he with he1 he2
                subst he1 he2
                have cg := cell_keep (hb5'.trans (hbi.mono hb5'.size)) (hcg 0 _ rfl)
                simp only [Nat.mul_one, Nat.add_zero] at cg
                obtain ⟨t, ht⟩ : ∃ t, t = F[p]'(by rw [← HFE.out]; omega) := ⟨_, rfl⟩
                rw [← ht] at cg
                have hts : t < s := by
                  have := HRS.out (by omega)
                  rw [ht]
                  exact this
                have hq0' : decide ((0 : Int) < ((p : Int) + 1)) = true := decide_eq_true (by omega)
                have hpf : p < f := by omega
                have hbl : Op.bytesLess t s = true := by rw [bytesLess_eq, decide_eq_true hts]
                clear hcg ht HRS
                go_upto_region 23 with (fail)
                go_quiet (fail)
                go_wp2_with fail
                go_roundw
                case rel => exact ⟨p + 1 + 1, by omega, by go_num, hb5'.trans ((below_drewN hbi _).mono hb5'.size)⟩
                case measure => simp [intOf]; omega
        · obtain rfl : q = f := by omega
          clear hlt hq HRF HFF HFE
          go_wp2_with fail
          go_loopw [15] (fun i wr3 => ∃ r : Nat, r ≤ k ∧ i = .int .i64 r ∧ Below w3.heap.size w3 wr3) (fun i _ => k - (intOf i).toNat)
          case atStart => exact ⟨0, Nat.zero_le _, rfl, hbq⟩
          case round =>
            obtain ⟨r, hr, rfl, hbi⟩ := hrel
            clear hbq
            generalize wr = wi at *
            by_cases hlt : r < k
            · have hrn : r < ns.length := by rw [← HN.out]; exact hlt
              obtain ⟨_, _, he, hnr, -⟩ := HNS.out
              injection he with he1 he2 he3
              subst he1 he3
              clear he2
              obtain ⟨bn, on, rfl, hbn, hcn⟩ := hnr r hrn
              have cn := hcn 0 _ rfl
              simp only [Nat.mul_one, Nat.add_zero] at cn
              obtain ⟨nm, hnm⟩ : ∃ nm, nm = ns[r] := ⟨_, rfl⟩
              rw [← hnm] at cn
              have hsl := HNB.out nm (by rw [hnm]; exact List.getElem_mem _)
              have hgd : ns.getD r [] = nm := by rw [List.getD_eq_getElem?_getD, List.getElem?_eq_getElem hrn, ← hnm]; rfl
              have hget := fs_has l ns hlt
              rw [hgd] at hget
              have HFN := Lib.hid (HFA.out nm hsl)
              obtain ⟨g, hg⟩ : ∃ g, g = getF (fsF l ns k) nm := ⟨_, rfl⟩
              rw [← hg] at hget HFN
              obtain ⟨g1, g2⟩ := g
              obtain rfl : g2 = true := hget
              have l0 := Later.cell (cell_keep (hb3'.trans (hbi.mono hb3'.size)) cn)
              clear hcn hnr hnm hrn hbn cn hgd hg hsl
              go_upto_region 28 with (fail)
              refine wp_region_mid 7 _ rfl rfl (by kernel_rfl) (by kernel_rfl) (by kernel_rfl) ?_
              apply EqGo.run
              focus
                kernel_rfl
              focus
                intro x K hK
                go_wp2_with fail
                first | exact hK x (Below.refl _ _) | exact Below.refl _ _
              simp only [Act.put, List.setIfInBounds_toArray, List.set_cons_succ, List.set_cons_zero]
              apply EqGo.run
              focus
                kernel_rfl
              focus
                intro x K hK
                go_wp2_with fail
                first | exact hK x (Below.refl _ _) | exact Below.refl _ _
              simp only [Act.put, List.setIfInBounds_toArray, List.set_cons_succ, List.set_cons_zero]
              apply EqGo.run
              focus
                kernel_rfl
              focus
                intro x K hK
                go_wp2_with fail
                first | exact hK x (Below.refl _ _) | exact Below.refl _ _
              simp only [Act.put, List.setIfInBounds_toArray, List.set_cons_succ, List.set_cons_zero]
              apply EqGo.run
              focus
                kernel_rfl
              focus
                intro x K hK
                go_wp2_with fail
                first | exact hK x (Below.refl _ _) | exact Below.refl _ _
              simp only [Act.put, List.setIfInBounds_toArray, List.set_cons_succ, List.set_cons_zero]
              apply EqGo.run
              focus
                kernel_rfl
              focus
                intro x K hK
                go_wp2_with fail
                first | exact hK x (Below.refl _ _) | exact Below.refl _ _
              simp only [Act.put, List.setIfInBounds_toArray, List.set_cons_succ, List.set_cons_zero]
              apply EqGo.run
              focus
                kernel_rfl
              focus
                intro x K hK
                go_wp2_with fail
                first | exact hK x (Below.refl _ _) | exact Below.refl _ _
              simp only [Act.put, List.setIfInBounds_toArray, List.set_cons_succ, List.set_cons_zero]
              apply EqGo.run
              focus
                kernel_rfl
              focus
                intro x K hK
                go_wp2_with fail
                first | exact hK x (Below.refl _ _) | exact Below.refl _ _
              simp only [Act.put, List.setIfInBounds_toArray, List.set_cons_succ, List.set_cons_zero]
              intro y K hK
              have hby := hbi.trans (y.below.mono hbi.size)
              have HFY := Lib.hid (HFN.out y.val hby)
              clear HFN l0 hbi
              go_wp2_with fail
              refine HFY.out.mono ?_
              rintro e w5 ⟨v5, rfl, h5, hb5⟩
              have hb5' := hby.trans (hb5.mono hby.size)
              obtain ⟨A5, c5, rfl, -⟩ := h5
              clear hb5 HFY hby
              refine hK _ _ ?_
              clear hK K
              simp only [Act.put, List.setIfInBounds_toArray, List.set_cons_succ, List.set_cons_zero]
              apply EqGo.run
              focus
                kernel_rfl
              focus
                intro x K hK
                go_wp2_with fail
                first | exact hK x (Below.refl _ _) | exact Below.refl _ _
              simp only [Act.put, List.setIfInBounds_toArray, List.set_cons_succ, List.set_cons_zero]
              apply EqGo.run
              focus
                kernel_rfl
              focus
                intro x K hK
                go_wp2_with fail
                first | exact hK x (Below.refl _ _) | exact Below.refl _ _
              simp only [Act.put, List.setIfInBounds_toArray, List.set_cons_succ, List.set_cons_zero]
              apply EqGo.run
              focus
                kernel_rfl
              focus
                intro x K hK
                go_wp2_with fail
                first | exact hK x (Below.refl _ _) | exact Below.refl _ _
              simp only [Act.put, List.setIfInBounds_toArray, List.set_cons_succ, List.set_cons_zero]
              apply EqGo.run
              focus
                kernel_rfl
              focus
                intro x K hK
                go_wp2_with fail
                first | exact hK x (Below.refl _ _) | exact Below.refl _ _
              simp only [Act.put, List.setIfInBounds_toArray, List.set_cons_succ, List.set_cons_zero]
              apply EqGo.run
              focus
                kernel_rfl
              focus
                intro x K hK
                go_wp2_with fail
                first | exact hK x (Below.refl _ _) | exact Below.refl _ _
              simp only [Act.put, List.setIfInBounds_toArray, List.set_cons_succ, List.set_cons_zero]
              intro y2
              replace hb5' := hb5'.trans (y2.below.mono hb5'.size)
              generalize y2.val = w6 at *
              clear y2
              go_wp2_with fail
              go_roundw
              case rel => exact ⟨r + 1, by omega, by go_num, hb5'⟩
              case measure => simp [intOf]; omega
            · obtain rfl : r = k := by omega
              have HVR := Lib.hid (vars_any st vb fb r (newS []) (fsF l ns r) wi (HI3.out.below hbi) sm_new (by omega) (by decide) (fun p hp => by cases hp))
              have hq30 : decide ((q : Int) ≤ r) = true := decide_eq_true (by omega)
              go_wp2_with fail
              refine HVR.out.mono ?_
              rintro e w5 ⟨v5, rfl, h5, hb5⟩
              have hbf := (hb3'.trans (hbi.mono hb3'.size)).trans (hb5.mono (hb3'.trans (hbi.mono hb3'.size)).size)
              obtain ⟨A5, c5, vs5, rfl, -⟩ := h5
              rw [show (newS []).vars.length = 0 from rfl]
              go_wp2_with fail
              go_ret
              exact ⟨rfl, hbf⟩
end Go.Proofs.Ytclifaehbdeldaa
