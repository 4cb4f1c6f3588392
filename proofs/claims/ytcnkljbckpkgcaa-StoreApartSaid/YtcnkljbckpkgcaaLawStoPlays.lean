/- StorePlays: whatever variables, things told and name are handed in, the law answers true. A bound on the lengths of the variables' lists. -/
import Derived.Test.YtcnkljbckpkgcaaStoTe
set_option linter.unusedVariables false
set_option linter.unusedSimpArgs false
namespace Go.Proofs.Ytcnkljbckpkgcaa
open Go.RowKit Go.Maps Go.Sort

/-- A store and the document's, both x, behind k things told. -/
structure PlayI (w0 w : World) (st vb fb xb N k : Nat) (x : Sto) (F : List (Txt × List Nd)) : Prop where
  sto : StI X0 w st vb fb N x F
  doc : DocI X0 w xb x F
  sm : SmK x F k
  n : N ≤ 10 + k
  bel : Below w0.heap.size w0 w
theorem PlayI.below {w0 w w' : World} {st vb fb xb N k : Nat} {x : Sto} {F : List (Txt × List Nd)} (h : PlayI w0 w st vb fb xb N k x F) (hb : Below w.heap.size w w') : PlayI w0 w' st vb fb xb N k x F :=
  ⟨h.sto.below hb, h.doc.below hb, h.sm, h.n, h.bel.trans (hb.mono h.bel.size)⟩
theorem PlayI.sma {w0 w : World} {st vb fb xb N k : Nat} {x : Sto} {F : List (Txt × List Nd)} (h : PlayI w0 w st vb fb xb N k x F) (hk : k ≤ 1000) : SmA x F N :=
  ⟨h.sm.s, h.sm.f, by have := h.n; omega, by have := h.sm.v; omega, by have := h.sm.g; omega, h.sm.k⟩
theorem PlayI.smt {w0 w : World} {st vb fb xb N k : Nat} {x : Sto} {F : List (Txt × List Nd)} (h : PlayI w0 w st vb fb xb N k x F) (hk : k ≤ 1000) {d : DoD} (hd : Few1 d) : SmT x F x F d N :=
  ⟨h.sm.s, h.sm.s, by have := h.n; omega, by have := h.sm.v; omega, by have := h.sm.g; omega, Nat.le_trans hd.1 (by decide), Nat.le_trans hd.2.1 (by decide), Nat.le_trans hd.2.2 (by unfold maxLen; decide)⟩
theorem TxR.below0 {w0 w : World} {v : Value} {L : List Txt} (h : TxR w0 v L) (hb : Below w0.heap.size w0 w) : TxR w v L := h.below hb
theorem DocI.start {w : World} {xb : Nat} (h : Blk w xb 32 #[.slice none 0 0, .slice none 0 0, .slice none 0 0]) : DocI X0 w xb (newS []) [] :=
  ⟨⟨_, _, _, h, OG.nil _ _ _, OT.nil _, OG.nil _ _ _⟩, List.Pairwise.nil, List.Pairwise.nil, fun b h => h.elim⟩
set_option maxRecDepth 100000 in
set_option maxHeartbeats 8000000 in
theorem stoplays_walk (A0 : Option Addr) (c0 : Nat) (V : List (Txt × List Txt)) (A1 : Option Addr) (c1 : Nat) (D : List DoD) (ask : Txt) (w : World) (hv : ValR w (.slice A0 V.length c0) V) (hD : DoR w (.slice A1 D.length c1) D) (hVb : ∀ p ∈ V, p.1.length ≤ maxLen) (hVl : ∀ p ∈ V, p.2.length ≤ 8796093022208) (hask : ask.length ≤ maxLen) :
    Calls Try.prog 3 #[.slice A0 V.length c0, .slice A1 D.length c1, .string ⟨ask.toArray⟩] w (Ret w (.bool true)) := by
  obtain ⟨m, hm⟩ : ∃ m, m = V.length := ⟨_, rfl⟩
  obtain ⟨n, hnn⟩ : ∃ n, n = D.length := ⟨_, rfl⟩
  rw [← hm] at hv
  rw [← hnn] at hD
  rw [← hm, ← hnn]
  have HM := Lib.hid hm
  have HN := Lib.hid hnn
  have HV := Lib.hid hv
  have HD := Lib.hid hD
  have HVB := Lib.hid hVb
  have HVL := Lib.hid hVl
  have HASK := Lib.hid hask
  clear hm hnn hv hD hVb hVl hask
  go_enter Try.func3, Try.ntmps3
  go_wp2_with fail
  refine (first7_any w).mono ?_
  rintro e w1 ⟨rfl, hb⟩
  by_cases h10 : 10 < m
  · go_wp2_with fail
    go_ret
    exact ⟨rfl, hb⟩
  have h10' : decide ((10 : Int) < m) = false := decide_eq_false (by omega)
  have HLI := Lib.hid (light_any (.slice A1 n c1) D w1 (HD.out.below hb))
  go_wp2_with fail
  refine HLI.out.mono ?_
  rintro e w2 ⟨b, rfl, hbf, hw2⟩
  obtain rfl : w1 = w2 := hw2.symm
  clear hw2
  cases b
  · go_wp2_with fail
    go_ret
    exact ⟨rfl, hb⟩
  have HFE := Lib.hid (hbf rfl)
  have HNW := Lib.hid (new_any2 (X := X0) (.slice A0 m c0) V w1 (HV.out.below hb) (by rw [← HM.out]; omega) (fun p hp => ⟨HVB.out p hp, HVL.out p hp⟩) (fun b h => h.elim))
  have HB1 := Lib.hid hb
  clear hbf HLI hb
  go_wp2_with fail
  refine HNW.out.mono ?_
  rintro e w3 ⟨st, vb, fb, rfl, hI3, hst, hvb, hfb, hb3⟩
  obtain ⟨xb, hxb⟩ : ∃ xb, xb = w3.heap.size := ⟨_, rfl⟩
  obtain ⟨w4, hw4⟩ : ∃ w4, w4 = w3.alloc (.cells #[.slice none 0 0, .slice none 0 0, .slice none 0 0] 32) := ⟨_, rfl⟩
  have hb4 : Below w3.heap.size w3 w4 := by rw [hw4]; exact fst_below _
  have HD4 := Lib.hid (show DocI X0 w4 xb (newS []) [] from DocI.start (by rw [hw4, hxb]; exact Blk.new _ _ _))
  have HI4 := Lib.hid (hI3.below hb4)
  have HB4 := Lib.hid (HB1.out.trans ((hb3.trans (hb4.mono hb3.size)).mono HB1.out.size))
  have HGE := Lib.hid (show ∀ k ∈ [st, vb, fb, xb], w.heap.size ≤ k from fun k hk => by
    have := HB1.out.size
    have := hb3.size
    simp only [List.mem_cons, List.not_mem_nil, or_false] at hk
    omega)
  have HW4 := Lib.hid hw4
  have HXB := Lib.hid hxb
  clear hI3 hst hvb hfb hb3 hxb hw4 hb4 HB1 HNW
  go_upto_region 6 with (fail)
  rw [← HXB.out, ← HW4.out]
  clear HXB HW4
  obtain ⟨_, _, vs, he, hr, ha, -⟩ := HV.out
  injection he with he1 he2 he3
  subst he1 he3
  clear he2
  have HA := Lib.hid ha
  have HR := Lib.hid hr
  clear ha hr
  go_wp2_with fail
  go_loopw [10] (fun i wr => ∃ k : Nat, k ≤ m ∧ i = .int .i64 k ∧ Hid (∀ j (_ : j < k) (h : j < V.length), V[j].2.length ≤ 20) ∧ Hid (StI X0 wr st vb fb V.length (newS V) []) ∧ Hid (DocI X0 wr xb (newS (V.take k)) []) ∧ Hid (Below w.heap.size w wr)) (fun i _ => m - (intOf i).toNat)
  case atStart => exact ⟨0, Nat.zero_le _, rfl, Lib.hid (fun j h => absurd h (Nat.not_lt_zero _)), HI4, Lib.hid (by rw [List.take_zero]; exact HD4.out), HB4⟩
  case round =>
    obtain ⟨k, hk, rfl, HS, HIK, HDK, HBK⟩ := hrel
    clear HI4 HD4 HB4
    by_cases hlt : k < m
    · have hkV : k < V.length := by rw [← HM.out]; exact hlt
      have hkv : k < vs.length := by rw [HA.out.1]; exact hkV
      obtain ⟨b, o, rfl, hbb, hc⟩ := HR.out k hkv
      have q0 := (HBK.out.cell (p := ⟨b, o + k * 2 + 0, none⟩) hbb).trans (hc 0 _ rfl)
      have q1 := (HBK.out.cell (p := ⟨b, o + k * 2 + 1, none⟩) hbb).trans (hc 1 _ rfl)
      have hx := HA.out.2 k hkv hkV
      rw [hx.1] at q0
      obtain ⟨u, hu⟩ : ∃ u, u = vs[k].2 := ⟨_, rfl⟩
      rw [← hu] at q1 hx
      obtain ⟨p, hp⟩ : ∃ p, p = V[k] := ⟨_, rfl⟩
      rw [← hp] at q0 hx
      simp only [Nat.add_zero] at q0
      have HT := Lib.hid (show newS (V.take (k + 1)) = setS (newS (V.take k)) p.1 p.2 by rw [List.take_succ_eq_append_getElem hkV, ← hp, newS_snoc])
      have HX := Lib.hid (hx.2.below0 HBK.out)
      have HPV := Lib.hid (show ∀ h : k < V.length, V[k] = p from fun _ => hp.symm)
      obtain ⟨nm, l⟩ := p
      obtain ⟨Au, cu, rfl, -⟩ := hx.2
      simp only at q0 HX HT q1
      obtain ⟨nl, hnl⟩ : ∃ nl, nl = l.length := ⟨_, rfl⟩
      rw [← hnl] at HX q1
      have HNL := Lib.hid hnl
      clear hc hu hp hx hkv hkV hnl
      by_cases h20 : 20 < nl
      · have hbf := HBK.out
        go_wp2_with fail
        go_ret
        exact ⟨rfl, hbf⟩
      · have h20' : decide ((20 : Int) < nl) = false := decide_eq_false (by omega)
        have HS2 := Lib.hid (show ∀ j (_ : j < k + 1) (h : j < V.length), V[j].2.length ≤ 20 from fun j h h' => by
          rcases Nat.lt_succ_iff_lt_or_eq.1 h with h | rfl
          · exact HS.out j h h'
          · rw [HPV.out h']
            simp only
            rw [← HNL.out]
            omega)
        have HDS := Lib.hid (fun (W : World) (hW : Below wr.heap.size wr W) => dset_any xb (newS (V.take k)) [] nm (.slice Au nl cu) l W (HDK.out.below hW) (HX.out.below hW) (Nat.le_trans (newS_len _) (by rw [List.length_take]; have := HM.out; omega)) (by rw [← HNL.out]; omega))
        rw [← HT.out] at HDS
        have l0 := Later.cell q0
        have l1 := Later.cell q1
        clear HS HT HPV HNL HX
        go_upto_region 11 with (fail)
        clear q0 q1
        refine wp_region_mid 11 _ rfl rfl (by kernel_rfl) (by kernel_rfl) (by kernel_rfl) ?_
        apply EqGo.run
        focus
          kernel_rfl
        focus
          intro x K hK
          go_wp2_with fail
          first | exact hK x (Below.refl _ _) | exact Below.refl _ _
        simp only [Act.put, List.setIfInBounds_toArray, List.set_cons_succ, List.set_cons_zero]
        apply EqGo.run
        focus
          kernel_rfl
        focus
          intro x K hK
          go_wp2_with fail
          first | exact hK x (Below.refl _ _) | exact Below.refl _ _
        simp only [Act.put, List.setIfInBounds_toArray, List.set_cons_succ, List.set_cons_zero]
        apply EqGo.run
        focus
          kernel_rfl
        focus
          intro x K hK
          go_wp2_with fail
          first | exact hK x (Below.refl _ _) | exact Below.refl _ _
        simp only [Act.put, List.setIfInBounds_toArray, List.set_cons_succ, List.set_cons_zero]
        apply EqGo.run
        focus
          kernel_rfl
        focus
          intro x K hK
          go_wp2_with fail
          first | exact hK x (Below.refl _ _) | exact Below.refl _ _
        simp only [Act.put, List.setIfInBounds_toArray, List.set_cons_succ, List.set_cons_zero]
        apply EqGo.run
        focus
          kernel_rfl
        focus
          intro x K hK
          go_wp2_with fail
          first | exact hK x (Below.refl _ _) | exact Below.refl _ _
        simp only [Act.put, List.setIfInBounds_toArray, List.set_cons_succ, List.set_cons_zero]
        apply EqGo.run
        focus
          kernel_rfl
        focus
          intro x K hK
          go_wp2_with fail
          first | exact hK x (Below.refl _ _) | exact Below.refl _ _
        simp only [Act.put, List.setIfInBounds_toArray, List.set_cons_succ, List.set_cons_zero]
        apply EqGo.run
        focus
          kernel_rfl
        focus
          intro x K hK
          go_wp2_with fail
          first | exact hK x (Below.refl _ _) | exact Below.refl _ _
        simp only [Act.put, List.setIfInBounds_toArray, List.set_cons_succ, List.set_cons_zero]
        apply EqGo.run
        focus
          kernel_rfl
        focus
          intro x K hK
          go_wp2_with fail
          first | exact hK x (Below.refl _ _) | exact Below.refl _ _
        simp only [Act.put, List.setIfInBounds_toArray, List.set_cons_succ, List.set_cons_zero]
        apply EqGo.run
        focus
          kernel_rfl
        focus
          intro x K hK
          go_wp2_with fail
          first | exact hK x (Below.refl _ _) | exact Below.refl _ _
        simp only [Act.put, List.setIfInBounds_toArray, List.set_cons_succ, List.set_cons_zero]
        apply EqGo.run
        focus
          kernel_rfl
        focus
          intro x K hK
          go_wp2_with fail
          first | exact hK x (Below.refl _ _) | exact Below.refl _ _
        simp only [Act.put, List.setIfInBounds_toArray, List.set_cons_succ, List.set_cons_zero]
        apply EqGo.run
        focus
          kernel_rfl
        focus
          intro x K hK
          go_wp2_with fail
          first | exact hK x (Below.refl _ _) | exact Below.refl _ _
        simp only [Act.put, List.setIfInBounds_toArray, List.set_cons_succ, List.set_cons_zero]
        intro z K hK
        have HDY := Lib.hid (HDS.out z.val z.below)
        have HIY := Lib.hid (HIK.out.below z.below)
        have HDKY := Lib.hid (HDK.out.below z.below)
        have HBY := Lib.hid (HBK.out.trans (z.below.mono HBK.out.size))
        clear HDS l0 l1 HIK HDK HBK
        go_wp2_with fail
        refine HDY.out.mono ?_
        rintro e w5 ⟨rfl, hD5, hb5⟩
        have HI5 := Lib.hid (HIY.out.doc HDKY.out hb5)
        have HD5 := Lib.hid hD5
        have HB5 := Lib.hid (HBY.out.trans (hb5.below (HGE.out xb (by simp)) HBY.out.size))
        clear hD5 hb5 HDY HIY HDKY HBY
        refine hK _ _ ?_
        clear hK K
        intro z2
        replace HI5 := Lib.hid (HI5.out.below z2.below)
        replace HD5 := Lib.hid (HD5.out.below z2.below)
        replace HB5 := Lib.hid (HB5.out.trans (z2.below.mono HB5.out.size))
        generalize z2.val = w6 at *
        clear z2
        go_wp2_with fail
        go_roundw
        case rel => exact ⟨k + 1, by omega, by go_num, HS2, HI5, HD5, HB5⟩
        case measure => simp [intOf]; omega
    · obtain rfl : k = m := by omega
      have HAL := Lib.hid (newS_all V fun p hp => by
        obtain ⟨j, hj, rfl⟩ := List.mem_iff_getElem.1 hp
        exact ⟨HVB.out _ hp, Nat.le_trans (HS.out j (by rw [HM.out]; exact hj) hj) (by decide)⟩)
      have HP0 := Lib.hid (show PlayI w wr st vb fb xb k 0 (newS V) [] from
        ⟨by rw [HM.out]; exact HIK.out, by have := HDK.out; rwa [List.take_of_length_le (by rw [← HM.out]; exact Nat.le_refl _)] at this, ⟨HAL.out.2.1, fun n l h => (by cases h), Nat.le_trans HAL.out.2.2 (by have := HM.out; omega), Nat.zero_le _, HAL.out.1, fun p h => (by cases h)⟩, by omega, HBK.out⟩)
      have HSA := Lib.hid (same7_any st vb fb xb k (newS V) [] ask wr HP0.out.sto HP0.out.doc (HP0.out.sma (by decide)) HASK.out)
      clear HS HIK HDK HBK HAL hlt
      go_wp2_with fail
      refine HSA.out.mono ?_
      rintro e w5 ⟨rfl, hb5⟩
      have HP5 := Lib.hid (HP0.out.below hb5)
      clear hb5 HSA HP0
      generalize newS V = x0 at *
      obtain ⟨_, _, ys, he, hr, ha, -⟩ := HD.out
      injection he with he1 he2 he3
      subst he1 he3
      clear he2
      have HAY := Lib.hid ha
      have HRY := Lib.hid hr
      have hn60 : n ≤ 60 := by rw [HN.out]; exact HFE.out.1
      clear ha hr
      go_wp2_with fail
      go_loopw [11] (fun i wr => ∃ j : Nat, j ≤ n ∧ i = .int .i64 j ∧ ∃ (N : Nat) (x : Sto) (F : List (Txt × List Nd)), Hid (PlayI w wr st vb fb xb N j x F)) (fun i _ => n - (intOf i).toNat)
      case atStart => exact ⟨0, Nat.zero_le _, rfl, _, _, _, HP5⟩
      case round =>
        obtain ⟨j, hj, rfl, N, x, F, HP⟩ := hrel
        clear HP5
        generalize wr = wj at *
        by_cases hlt : j < n
        · have hjD : j < D.length := by rw [← HN.out]; exact hlt
          have hjy : j < ys.length := by rw [HAY.out.1]; exact hjD
          obtain ⟨b, o, rfl, hbb, hc⟩ := HRY.out j hjy
          obtain ⟨hk1, hk2, hk3, hk4, hk5⟩ := HAY.out.2 j hjy hjD
          have HF1 := Lib.hid (HFE.out.2 j hjD)
          obtain ⟨d, hd⟩ : ∃ d, d = D[j] := ⟨_, rfl⟩
          obtain ⟨yy, hyy⟩ : ∃ y, y = ys[j] := ⟨_, rfl⟩
          rw [← hd] at HF1
          rw [← hd, ← hyy] at hk1 hk2 hk3 hk4 hk5
          rw [← hyy] at hc
          have q0 := hc 0 _ rfl
          have q1 := hc 1 _ rfl
          have q2 := hc 2 _ rfl
          have q3 := hc 3 _ rfl
          have q4 := hc 4 _ rfl
          rw [hk1] at q0
          rw [hk2] at q1
          rw [hk3] at q3
          simp only [Nat.add_zero] at q0
          have HL := Lib.hid (hk4.below HP.out.bel)
          have HPP := Lib.hid (hk5.below HP.out.bel)
          obtain ⟨_, vlk, vlv, _, vpv⟩ := yy
          simp only at q2 q4 HL HPP
          have r0 := (HP.out.bel.cell (p := ⟨b, o + j * 5, none⟩) hbb).trans q0
          have r1 := (HP.out.bel.cell (p := ⟨b, o + j * 5 + 1, none⟩) hbb).trans q1
          have r2 := (HP.out.bel.cell (p := ⟨b, o + j * 5 + 2, none⟩) hbb).trans q2
          have r3 := (HP.out.bel.cell (p := ⟨b, o + j * 5 + 3, none⟩) hbb).trans q3
          have r4 := (HP.out.bel.cell (p := ⟨b, o + j * 5 + 4, none⟩) hbb).trans q4
          have HTE := Lib.hid (tell_any st vb fb xb N x F x F d vlv vpv wj HP.out.sto HP.out.doc (HP.out.smt (by omega) HF1.out) HL.out HPP.out)
          obtain ⟨Al, cl, rfl, -⟩ := HL.out
          obtain ⟨Ap, cp, rfl, -⟩ := HPP.out
          have HQ1 := Lib.hid q1
          clear hk1 hk2 hk3 hk4 hk5 hc hd hyy hjD hjy HL HPP q0 q1 q2 q3 q4
          go_wp2_with fail
          refine HTE.out.mono ?_
          rintro e w6 ⟨b6, rfl, hI6, hb6, hsame⟩
          obtain ⟨rfl, hD6⟩ := hsame rfl rfl
          have HP6 := Lib.hid (show PlayI w w6 st vb fb xb (N + 1) (j + 1) (doS x d) (doF F d) from ⟨hI6, hD6, smK_do HP.out.sm HF1.out, by have := HP.out.n; omega, HP.out.bel.trans (hb6.below HGE.out HP.out.bel.size)⟩)
          clear hI6 hb6 hsame hD6 HTE HP r0 r1 r2 r3 r4
          have HSN := Lib.hid (same7_any st vb fb xb (N + 1) (doS x d) (doF F d) d.name w6 HP6.out.sto HP6.out.doc (HP6.out.sma (by omega)) (Nat.le_trans HF1.out.2.2 (by unfold maxLen; decide)))
          have r1 := (HP6.out.bel.cell (p := ⟨b, o + j * 5 + 1, none⟩) hbb).trans HQ1.out
          go_wp2_with fail
          refine HSN.out.mono ?_
          rintro e w7 ⟨rfl, hb7⟩
          have HP7 := Lib.hid (HP6.out.below hb7)
          clear hb7 HSN HP6 r1
          have HSN := Lib.hid (same7_any st vb fb xb (N + 1) (doS x d) (doF F d) ask w7 HP7.out.sto HP7.out.doc (HP7.out.sma (by omega)) HASK.out)
          go_wp2_with fail
          refine HSN.out.mono ?_
          rintro e w8 ⟨rfl, hb8⟩
          have HP8 := Lib.hid (HP7.out.below hb8)
          clear hb8 HSN HP7 HF1 HQ1
          go_wp2_with fail
          go_roundw
          case rel => exact ⟨j + 1, by omega, by go_num, _, _, _, HP8⟩
          case measure => simp [intOf]; omega
        · obtain rfl : j = n := by omega
          have hbf := HP.out.bel
          go_wp2_with fail
          go_ret
          exact ⟨rfl, hbf⟩
theorem stoplays_b (A0 : Option Addr) (c0 : Nat) (V : List (Txt × List Txt)) (A1 : Option Addr) (c1 : Nat) (D : List DoD) (ask : ByteArray) (w : World) (hv : ValR w (.slice A0 V.length c0) V) (hD : DoR w (.slice A1 D.length c1) D) (hVb : ∀ p ∈ V, p.1.length ≤ maxLen) (hVl : ∀ p ∈ V, p.2.length ≤ 8796093022208) (hask : ask.size ≤ maxLen) :
    Calls Try.prog 3 #[.slice A0 V.length c0, .slice A1 D.length c1, .string ask] w (Ret w (.bool true)) := by
  have h := stoplays_walk A0 c0 V A1 c1 D ask.data.toList w hv hD hVb hVl (by simpa using hask)
  rwa [show (⟨ask.data.toList.toArray⟩ : ByteArray) = ask from by cases ask; simp] at h
end Go.Proofs.Ytcnkljbckpkgcaa
