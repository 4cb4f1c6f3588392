/- ListsGroup: for every three lists of texts the law answers true. What the package-level error holds is a hypothesis. -/
import Derived.Test.YtckcpokfjofcaaaDoorListWF
import Derived.Deep.CutBlock
set_option linter.unusedVariables false
set_option linter.unusedSimpArgs false
namespace Go.Proofs.YtckcpokfjofcaaaDoor
open Go.RowKit

/-- What the first half asks. -/
theorem cats_fine {a b c : List (List UInt8)} (h : a.length + b.length + c.length ≤ 100) (ha : bigL a = false) (hb : bigL b = false) (hc : bigL c = false) :
    catL [a, b] = some (a ++ b) ∧ catL [b, c] = some (b ++ c) ∧ catL [a ++ b, c] = some (a ++ b ++ c) ∧ catL [a, b ++ c] = some (a ++ b ++ c) ∧ catL [a, b, c] = some (a ++ b ++ c) := by
  have fa := (bigL_false.1 ha).2
  have fb := (bigL_false.1 hb).2
  have fc := (bigL_false.1 hc).2
  have key : ∀ ls : List (List (List UInt8)), ls.flatten.length ≤ 100 → (∀ x ∈ ls, ∀ s ∈ x, s.length ≤ 2000) → catL ls = some ls.flatten := fun ls h1 h2 => by
    have := cat_ok ls [] (by simpa using h1) (fun s hs => by cases hs) h2
    rwa [List.nil_append] at this
  have fab : ∀ s ∈ a ++ b, s.length ≤ 2000 := fun s hs => (List.mem_append.1 hs).elim (fa s) (fb s)
  have fbc : ∀ s ∈ b ++ c, s.length ≤ 2000 := fun s hs => (List.mem_append.1 hs).elim (fb s) (fc s)
  have two : ∀ {x y : List (List UInt8)}, (∀ s ∈ x, s.length ≤ 2000) → (∀ s ∈ y, s.length ≤ 2000) → ∀ z ∈ [x, y], ∀ s ∈ z, s.length ≤ 2000 := fun {x y} hx hy z hz => by
    simp only [List.mem_cons, List.not_mem_nil, or_false] at hz
    rcases hz with rfl | rfl
    · exact hx
    · exact hy
  refine ⟨?_, ?_, ?_, ?_, ?_⟩
  · rw [key [a, b] (by simp; omega) (two fa fb)]; simp
  · rw [key [b, c] (by simp; omega) (two fb fc)]; simp
  · rw [key [a ++ b, c] (by simp; omega) (two fab fc)]; simp
  · rw [key [a, b ++ c] (by simp; omega) (two fa fbc)]; simp
  · rw [key [a, b, c] (by simp; omega) (fun z hz => by
      simp only [List.mem_cons, List.not_mem_nil, or_false] at hz
      rcases hz with rfl | rfl | rfl
      · exact fa
      · exact fb
      · exact fc)]
    simp
/-- What the second half asks. -/
theorem joins_fine {a b c ab bc x y : List (List UInt8)} (h1 : joinL [a, b] = some ab) (h2 : joinL [b, c] = some bc) (h3 : joinL [ab, c] = some x) (h4 : joinL [a, bc] = some y) : joinL [a, b, c] = some x ∧ y = x := join_group h1 h2 h3 h4
set_option maxRecDepth 100000 in
set_option maxHeartbeats 8000000 in
theorem lgroup_card (Aa : Option Addr) (ca : Nat) (a : List (List UInt8)) (Ab : Option Addr) (cb : Nat) (b : List (List UInt8)) (Ac : Option Addr) (cc : Nat) (c : List (List UInt8)) (aB : Addr) (w : World)
    (hra : RdL w 1 strc Aa a) (hca : a.length ≤ ca) (hma : ca ≤ maxLen) (hna : Aa = none → ca = 0) (hsa : ∀ x ∈ a, x.length ≤ 140737488355328)
    (hrb : RdL w 1 strc Ab b) (hcb : b.length ≤ cb) (hmb : cb ≤ maxLen) (hnb : Ab = none → cb = 0) (hsb : ∀ x ∈ b, x.length ≤ 140737488355328)
    (hrc : RdL w 1 strc Ac c) (hcc : c.length ≤ cc) (hmc : cc ≤ maxLen) (hnc : Ac = none → cc = 0) (hsc : ∀ x ∈ c, x.length ≤ 140737488355328) (hE : BigW w aB) :
    Calls Tryd.prog 3 #[.slice Aa a.length ca, .slice Ab b.length cb, .slice Ac c.length cc] w fun e w' => e = .returned (.bool true) ∧ Below w.heap.size w w' := by
  have hva : SlS w (.slice Aa a.length ca) a := ⟨Aa, ca, rfl, hra, hna, hca, hma⟩
  have hvb : SlS w (.slice Ab b.length cb) b := ⟨Ab, cb, rfl, hrb, hnb, hcb, hmb⟩
  have hvc : SlS w (.slice Ac c.length cc) c := ⟨Ac, cc, rfl, hrc, hnc, hcc, hmc⟩
  have HS := Lib.hid (show ∀ x ∈ [a, b, c], ∀ s ∈ x, s.length ≤ 140737488355328 from fun x hx => by
    simp only [List.mem_cons, List.not_mem_nil, or_false] at hx
    rcases hx with rfl | rfl | rfl
    · exact hsa
    · exact hsb
    · exact hsc)
  obtain ⟨na, hna0⟩ : ∃ n, n = a.length := ⟨_, rfl⟩
  obtain ⟨nb, hnb0⟩ : ∃ n, n = b.length := ⟨_, rfl⟩
  obtain ⟨nc, hnc0⟩ : ∃ n, n = c.length := ⟨_, rfl⟩
  rw [← hna0] at hva ⊢
  rw [← hnb0] at hvb ⊢
  rw [← hnc0] at hvc ⊢
  have HNA := Lib.hid hna0
  have HNB := Lib.hid hnb0
  have HNC := Lib.hid hnc0
  have HE := Lib.hid hE
  have C1 := Lib.hid (first3_any aB w hE)
  clear hra hca hma hna hsa hrb hcb hmb hnb hsb hrc hcc hmc hnc hsc hE hna0 hnb0 hnc0
  go_enter Tryd.func3, Tryd.ntmps3
  go_wp2_with fail
  refine C1.out.mono ?_
  rintro e w1 ⟨rfl, hb⟩
  clear C1
  have CL := Lib.hid (lightN #[.slice Aa na ca, .slice Ab nb cb, .slice Ac nc cc] [a, b, c] 3 w1 (AllS.three (hva.below hb) (hvb.below hb) (hvc.below hb)) rfl (by show 3 ≤ 1000; decide) HS.out)
  have HLT := Lib.hid (fun h : lightL [a, b, c] = true => light_small h)
  generalize lightL [a, b, c] = q at *
  go_wp2_with fail
  refine CL.out.mono ?_
  rintro e w2 ⟨rfl, hbn⟩
  replace hb := hb.trans (hbn.mono hb.size)
  clear CL hbn HS
  cases q with
  | false =>
    go_wp2_with fail
    go_ret
    exact ⟨rfl, hb⟩
  | true =>
    have HLS := HLT.out rfl
    have ga := HLS a (by simp)
    have gb := HLS b (by simp)
    have gc := HLS c (by simp)
    have la : na ≤ 130 := by rw [HNA.out]; exact ga.1
    have lb : nb ≤ 130 := by rw [HNB.out]; exact gb.1
    have lc : nc ≤ 130 := by rw [HNC.out]; exact gc.1
    have SA := Lib.hid (show Sml a from ⟨by omega, fun s hs => by have := ga.2 s hs; omega⟩)
    have SB := Lib.hid (show Sml b from ⟨by omega, fun s hs => by have := gb.2 s hs; omega⟩)
    have SC := Lib.hid (show Sml c from ⟨by omega, fun s hs => by have := gc.2 s hs; omega⟩)
    clear HLS HLT ga gb gc
    obtain ⟨R1, hR1⟩ : ∃ R, R = catL [a, b] := ⟨_, rfl⟩
    have S1 := Lib.hid (show Sml (R1.getD []) by rw [hR1]; exact sml_cat)
    have K := Lib.hid (catN #[.slice Aa na ca, .slice Ab nb cb] [a, b] 2 aB w2 (AllS.two (hva.below hb) (hvb.below hb)) rfl (by show 2 ≤ 1000; decide) (fun x hx => (sml_two SA.out SB.out x hx).1) (HE.out.below hb))
    rw [← hR1] at K
    have H1 := Lib.hid hR1
    clear hR1
    go_wp2_with fail
    refine K.out.mono ?_
    clear K
    rintro e w11 h1
    obtain ⟨A1, n1, c1, er1, rfl, he1, hs1, hbn⟩ := h1.lw
    replace hb := hb.trans (hbn.mono hb.size)
    have E1 := Lib.hid he1
    clear hbn h1 he1
    obtain ⟨R2, hR2⟩ : ∃ R, R = catL [b, c] := ⟨_, rfl⟩
    have S2 := Lib.hid (show Sml (R2.getD []) by rw [hR2]; exact sml_cat)
    have K := Lib.hid (catN #[.slice Ab nb cb, .slice Ac nc cc] [b, c] 2 aB w11 (AllS.two (hvb.below hb) (hvc.below hb)) rfl (by show 2 ≤ 1000; decide) (fun x hx => (sml_two SB.out SC.out x hx).1) (HE.out.below hb))
    rw [← hR2] at K
    have H2 := Lib.hid hR2
    clear hR2
    go_wp2_with fail
    refine K.out.mono ?_
    clear K
    rintro e w12 h2
    obtain ⟨A2, n2, c2, er2, rfl, he2, hs2, hbn⟩ := h2.lw
    replace hb := hb.trans (hbn.mono hb.size)
    replace hs1 := hs1.below hbn
    have E2 := Lib.hid he2
    clear hbn h2 he2
    obtain ⟨R3, hR3⟩ : ∃ R, R = catL [R1.getD [], c] := ⟨_, rfl⟩
    have S3 := Lib.hid (show Sml (R3.getD []) by rw [hR3]; exact sml_cat)
    have K := Lib.hid (catN #[.slice A1 n1 c1, .slice Ac nc cc] [R1.getD [], c] 2 aB w12 (AllS.two hs1 (hvc.below hb)) rfl (by show 2 ≤ 1000; decide) (fun x hx => (sml_two S1.out SC.out x hx).1) (HE.out.below hb))
    rw [← hR3] at K
    have H3 := Lib.hid hR3
    clear hR3
    go_wp2_with fail
    refine K.out.mono ?_
    clear K
    rintro e w13 h3
    obtain ⟨A3, n3, c3, er3, rfl, he3, hs3, hbn⟩ := h3.lw
    replace hb := hb.trans (hbn.mono hb.size)
    replace hs1 := hs1.below hbn
    replace hs2 := hs2.below hbn
    have E3 := Lib.hid he3
    clear hbn h3 he3
    obtain ⟨R4, hR4⟩ : ∃ R, R = catL [a, R2.getD []] := ⟨_, rfl⟩
    have S4 := Lib.hid (show Sml (R4.getD []) by rw [hR4]; exact sml_cat)
    have K := Lib.hid (catN #[.slice Aa na ca, .slice A2 n2 c2] [a, R2.getD []] 2 aB w13 (AllS.two (hva.below hb) hs2) rfl (by show 2 ≤ 1000; decide) (fun x hx => (sml_two SA.out S2.out x hx).1) (HE.out.below hb))
    rw [← hR4] at K
    have H4 := Lib.hid hR4
    clear hR4
    go_wp2_with fail
    refine K.out.mono ?_
    clear K
    rintro e w14 h4
    obtain ⟨A4, n4, c4, er4, rfl, he4, hs4, hbn⟩ := h4.lw
    replace hb := hb.trans (hbn.mono hb.size)
    replace hs1 := hs1.below hbn
    replace hs2 := hs2.below hbn
    replace hs3 := hs3.below hbn
    have E4 := Lib.hid he4
    clear hbn h4 he4
    obtain ⟨R5, hR5⟩ : ∃ R, R = catL [a, b, c] := ⟨_, rfl⟩
    have S5 := Lib.hid (show Sml (R5.getD []) by rw [hR5]; exact sml_cat)
    have K := Lib.hid (catN #[.slice Aa na ca, .slice Ab nb cb, .slice Ac nc cc] [a, b, c] 3 aB w14 (AllS.three (hva.below hb) (hvb.below hb) (hvc.below hb)) rfl (by show 3 ≤ 1000; decide) (fun x hx => (sml_three SA.out SB.out SC.out x hx).1) (HE.out.below hb))
    rw [← hR5] at K
    have H5 := Lib.hid hR5
    clear hR5
    go_wp2_with fail
    refine K.out.mono ?_
    clear K
    rintro e w15 h5
    obtain ⟨A5, n5, c5, er5, rfl, he5, hs5, hbn⟩ := h5.lw
    replace hb := hb.trans (hbn.mono hb.size)
    replace hs1 := hs1.below hbn
    replace hs2 := hs2.below hbn
    replace hs3 := hs3.below hbn
    replace hs4 := hs4.below hbn
    have E5 := Lib.hid he5
    clear hbn h5 he5
    go_upto_region 9 with (fail)
    go_cut [121] from 66 to 121 (fun v wx => v = .bool false ∧ Below w.heap.size w wx)
    case first =>
      by_cases HG : na + nb + nc ≤ 100 ∧ bigL a = false ∧ bigL b = false ∧ bigL c = false
      · obtain ⟨f1, f2, f3, f4, f5⟩ := cats_fine (a := a) (b := b) (c := c) (by rw [← HNA.out, ← HNB.out, ← HNC.out]; exact HG.1) HG.2.1 HG.2.2.1 HG.2.2.2
        obtain rfl : R1 = some (a ++ b) := H1.out.trans f1
        obtain rfl : R2 = some (b ++ c) := H2.out.trans f2
        obtain rfl : R3 = some (a ++ b ++ c) := H3.out.trans f3
        obtain rfl : R4 = some (a ++ b ++ c) := H4.out.trans f4
        obtain rfl : R5 = some (a ++ b ++ c) := H5.out.trans f5
        clear f1 f2 f3 f4 f5 HG H1 H2 H3 H4 H5
        obtain rfl := E1.out
        clear E1
        simp only [errV]
        obtain rfl := E2.out
        clear E2
        simp only [errV]
        obtain rfl := E3.out
        clear E3
        simp only [errV]
        obtain rfl := E4.out
        clear E4
        simp only [errV]
        obtain rfl := E5.out
        clear E5
        simp only [errV]
        simp only [Option.getD_some] at hs3 hs4 hs5 S3 S4 S5
        have K := Lib.hid (sameTexts_v (.slice A3 n3 c3) (.slice A4 n4 c4) _ _ _ hs3 hs4 S3.out.1 S4.out.1)
        rw [decide_eq_true rfl] at K
        go_wp2_with fail
        refine K.out.mono ?_
        clear K
        rintro e w16 ⟨rfl, hbn⟩
        replace hb := hb.trans (hbn.mono hb.size)
        replace hs3 := hs3.below hbn
        replace hs5 := hs5.below hbn
        have K := Lib.hid (sameTexts_v (.slice A3 n3 c3) (.slice A5 n5 c5) _ _ _ hs3 hs5 S3.out.1 S5.out.1)
        rw [decide_eq_true rfl] at K
        go_wp2_with fail
        refine K.out.mono ?_
        clear K
        rintro e w17 ⟨rfl, hbm⟩
        replace hb := hb.trans (hbm.mono hb.size)
        go_wp2_with fail
        go_meet
        exact ⟨rfl, hb⟩
      · have HNG := Lib.hid HG
        clear HG H1 H2 H3 H4 H5
        cases R1 with
        | none =>
          obtain rfl := E1.out
          clear E1
          simp only [errV, bigV]
          go_wp2_with fail
          go_meet
          exact ⟨rfl, hb⟩
        | some ab =>
          obtain rfl := E1.out
          clear E1
          simp only [errV]
          cases R2 with
          | none =>
            obtain rfl := E2.out
            clear E2
            simp only [errV, bigV]
            go_wp2_with fail
            go_meet
            exact ⟨rfl, hb⟩
          | some bc =>
            obtain rfl := E2.out
            clear E2
            simp only [errV]
            cases R3 with
            | none =>
              obtain rfl := E3.out
              clear E3
              simp only [errV, bigV]
              by_cases hsum : 100 < na + nb + nc
              · go_wp2_with fail
                go_meet
                exact ⟨rfl, hb⟩
              have KF := Lib.hid (fits_any (.slice Aa na ca) a aB _ (SlS.below hva hb) (by have := HNA.out; omega) (BigW.below HE.out hb))
              rcases Bool.eq_false_or_eq_true (bigL a) with hbig | hbig
              · rw [hbig, if_pos rfl] at KF
                unfold bigV at KF
                go_wp2_with fail
                refine KF.out.mono ?_
                rintro e wf ⟨rfl, hbn⟩
                replace hb := hb.trans (hbn.mono hb.size)
                go_wp2_with fail
                go_meet
                exact ⟨rfl, hb⟩
              rw [hbig, if_neg Bool.noConfusion] at KF
              have Fa := Lib.hid hbig
              clear hbig
              go_wp2_with fail
              refine KF.out.mono ?_
              clear KF
              rintro e wfa ⟨rfl, hbn⟩
              replace hb := hb.trans (hbn.mono hb.size)
              clear hbn
              have KF := Lib.hid (fits_any (.slice Ab nb cb) b aB _ (SlS.below hvb hb) (by have := HNB.out; omega) (BigW.below HE.out hb))
              rcases Bool.eq_false_or_eq_true (bigL b) with hbig | hbig
              · rw [hbig, if_pos rfl] at KF
                unfold bigV at KF
                go_wp2_with fail
                refine KF.out.mono ?_
                rintro e wf ⟨rfl, hbn⟩
                replace hb := hb.trans (hbn.mono hb.size)
                go_wp2_with fail
                go_meet
                exact ⟨rfl, hb⟩
              rw [hbig, if_neg Bool.noConfusion] at KF
              have Fb := Lib.hid hbig
              clear hbig
              go_wp2_with fail
              refine KF.out.mono ?_
              clear KF
              rintro e wfb ⟨rfl, hbn⟩
              replace hb := hb.trans (hbn.mono hb.size)
              clear hbn
              have KF := Lib.hid (fits_any (.slice Ac nc cc) c aB _ (SlS.below hvc hb) (by have := HNC.out; omega) (BigW.below HE.out hb))
              rcases Bool.eq_false_or_eq_true (bigL c) with hbig | hbig
              · rw [hbig, if_pos rfl] at KF
                unfold bigV at KF
                go_wp2_with fail
                refine KF.out.mono ?_
                rintro e wf ⟨rfl, hbn⟩
                replace hb := hb.trans (hbn.mono hb.size)
                go_wp2_with fail
                go_meet
                exact ⟨rfl, hb⟩
              rw [hbig, if_neg Bool.noConfusion] at KF
              have Fc := Lib.hid hbig
              clear hbig
              go_wp2_with fail
              refine KF.out.mono ?_
              clear KF
              rintro e wfc ⟨rfl, hbn⟩
              replace hb := hb.trans (hbn.mono hb.size)
              clear hbn
              exact absurd ⟨by omega, Fa.out, Fb.out, Fc.out⟩ HNG.out
            | some x =>
              obtain rfl := E3.out
              clear E3
              simp only [errV]
              cases R4 with
              | none =>
                obtain rfl := E4.out
                clear E4
                simp only [errV, bigV]
                by_cases hsum : 100 < na + nb + nc
                · go_wp2_with fail
                  go_meet
                  exact ⟨rfl, hb⟩
                have KF := Lib.hid (fits_any (.slice Aa na ca) a aB _ (SlS.below hva hb) (by have := HNA.out; omega) (BigW.below HE.out hb))
                rcases Bool.eq_false_or_eq_true (bigL a) with hbig | hbig
                · rw [hbig, if_pos rfl] at KF
                  unfold bigV at KF
                  go_wp2_with fail
                  refine KF.out.mono ?_
                  rintro e wf ⟨rfl, hbn⟩
                  replace hb := hb.trans (hbn.mono hb.size)
                  go_wp2_with fail
                  go_meet
                  exact ⟨rfl, hb⟩
                rw [hbig, if_neg Bool.noConfusion] at KF
                have Fa := Lib.hid hbig
                clear hbig
                go_wp2_with fail
                refine KF.out.mono ?_
                clear KF
                rintro e wfa ⟨rfl, hbn⟩
                replace hb := hb.trans (hbn.mono hb.size)
                clear hbn
                have KF := Lib.hid (fits_any (.slice Ab nb cb) b aB _ (SlS.below hvb hb) (by have := HNB.out; omega) (BigW.below HE.out hb))
                rcases Bool.eq_false_or_eq_true (bigL b) with hbig | hbig
                · rw [hbig, if_pos rfl] at KF
                  unfold bigV at KF
                  go_wp2_with fail
                  refine KF.out.mono ?_
                  rintro e wf ⟨rfl, hbn⟩
                  replace hb := hb.trans (hbn.mono hb.size)
                  go_wp2_with fail
                  go_meet
                  exact ⟨rfl, hb⟩
                rw [hbig, if_neg Bool.noConfusion] at KF
                have Fb := Lib.hid hbig
                clear hbig
                go_wp2_with fail
                refine KF.out.mono ?_
                clear KF
                rintro e wfb ⟨rfl, hbn⟩
                replace hb := hb.trans (hbn.mono hb.size)
                clear hbn
                have KF := Lib.hid (fits_any (.slice Ac nc cc) c aB _ (SlS.below hvc hb) (by have := HNC.out; omega) (BigW.below HE.out hb))
                rcases Bool.eq_false_or_eq_true (bigL c) with hbig | hbig
                · rw [hbig, if_pos rfl] at KF
                  unfold bigV at KF
                  go_wp2_with fail
                  refine KF.out.mono ?_
                  rintro e wf ⟨rfl, hbn⟩
                  replace hb := hb.trans (hbn.mono hb.size)
                  go_wp2_with fail
                  go_meet
                  exact ⟨rfl, hb⟩
                rw [hbig, if_neg Bool.noConfusion] at KF
                have Fc := Lib.hid hbig
                clear hbig
                go_wp2_with fail
                refine KF.out.mono ?_
                clear KF
                rintro e wfc ⟨rfl, hbn⟩
                replace hb := hb.trans (hbn.mono hb.size)
                clear hbn
                exact absurd ⟨by omega, Fa.out, Fb.out, Fc.out⟩ HNG.out
              | some y =>
                obtain rfl := E4.out
                clear E4
                simp only [errV]
                cases R5 with
                | none =>
                  obtain rfl := E5.out
                  clear E5
                  simp only [errV, bigV]
                  by_cases hsum : 100 < na + nb + nc
                  · go_wp2_with fail
                    go_meet
                    exact ⟨rfl, hb⟩
                  have KF := Lib.hid (fits_any (.slice Aa na ca) a aB _ (SlS.below hva hb) (by have := HNA.out; omega) (BigW.below HE.out hb))
                  rcases Bool.eq_false_or_eq_true (bigL a) with hbig | hbig
                  · rw [hbig, if_pos rfl] at KF
                    unfold bigV at KF
                    go_wp2_with fail
                    refine KF.out.mono ?_
                    rintro e wf ⟨rfl, hbn⟩
                    replace hb := hb.trans (hbn.mono hb.size)
                    go_wp2_with fail
                    go_meet
                    exact ⟨rfl, hb⟩
                  rw [hbig, if_neg Bool.noConfusion] at KF
                  have Fa := Lib.hid hbig
                  clear hbig
                  go_wp2_with fail
                  refine KF.out.mono ?_
                  clear KF
                  rintro e wfa ⟨rfl, hbn⟩
                  replace hb := hb.trans (hbn.mono hb.size)
                  clear hbn
                  have KF := Lib.hid (fits_any (.slice Ab nb cb) b aB _ (SlS.below hvb hb) (by have := HNB.out; omega) (BigW.below HE.out hb))
                  rcases Bool.eq_false_or_eq_true (bigL b) with hbig | hbig
                  · rw [hbig, if_pos rfl] at KF
                    unfold bigV at KF
                    go_wp2_with fail
                    refine KF.out.mono ?_
                    rintro e wf ⟨rfl, hbn⟩
                    replace hb := hb.trans (hbn.mono hb.size)
                    go_wp2_with fail
                    go_meet
                    exact ⟨rfl, hb⟩
                  rw [hbig, if_neg Bool.noConfusion] at KF
                  have Fb := Lib.hid hbig
                  clear hbig
                  go_wp2_with fail
                  refine KF.out.mono ?_
                  clear KF
                  rintro e wfb ⟨rfl, hbn⟩
                  replace hb := hb.trans (hbn.mono hb.size)
                  clear hbn
                  have KF := Lib.hid (fits_any (.slice Ac nc cc) c aB _ (SlS.below hvc hb) (by have := HNC.out; omega) (BigW.below HE.out hb))
                  rcases Bool.eq_false_or_eq_true (bigL c) with hbig | hbig
                  · rw [hbig, if_pos rfl] at KF
                    unfold bigV at KF
                    go_wp2_with fail
                    refine KF.out.mono ?_
                    rintro e wf ⟨rfl, hbn⟩
                    replace hb := hb.trans (hbn.mono hb.size)
                    go_wp2_with fail
                    go_meet
                    exact ⟨rfl, hb⟩
                  rw [hbig, if_neg Bool.noConfusion] at KF
                  have Fc := Lib.hid hbig
                  clear hbig
                  go_wp2_with fail
                  refine KF.out.mono ?_
                  clear KF
                  rintro e wfc ⟨rfl, hbn⟩
                  replace hb := hb.trans (hbn.mono hb.size)
                  clear hbn
                  exact absurd ⟨by omega, Fa.out, Fb.out, Fc.out⟩ HNG.out
                | some z =>
                  obtain rfl := E5.out
                  clear E5
                  simp only [errV]
                  simp only [Option.getD_some] at hs3 hs4 hs5 S3 S4 S5
                  by_cases hxy : x = y
                  · subst hxy
                    have K := Lib.hid (sameTexts_v (.slice A3 n3 c3) (.slice A4 n4 c4) _ _ _ hs3 hs4 S3.out.1 S4.out.1)
                    rw [decide_eq_true rfl] at K
                    go_wp2_with fail
                    refine K.out.mono ?_
                    clear K
                    rintro e w16 ⟨rfl, hbn⟩
                    replace hb := hb.trans (hbn.mono hb.size)
                    replace hs3 := hs3.below hbn
                    replace hs5 := hs5.below hbn
                    clear hbn
                    have K := Lib.hid (sameTexts_v (.slice A3 n3 c3) (.slice A5 n5 c5) _ _ _ hs3 hs5 S3.out.1 S5.out.1)
                    by_cases hxz : x = z
                    · rw [decide_eq_true hxz] at K
                      clear hxz
                      go_wp2_with fail
                      refine K.out.mono ?_
                      clear K
                      rintro e w17 ⟨rfl, hbm⟩
                      replace hb := hb.trans (hbm.mono hb.size)
                      clear hbm
                      go_wp2_with fail
                      go_meet
                      exact ⟨rfl, hb⟩
                    · rw [decide_eq_false hxz] at K
                      clear hxz
                      go_wp2_with fail
                      refine K.out.mono ?_
                      clear K
                      rintro e w17 ⟨rfl, hbm⟩
                      replace hb := hb.trans (hbm.mono hb.size)
                      clear hbm
                      by_cases hsum : 100 < na + nb + nc
                      · go_wp2_with fail
                        go_meet
                        exact ⟨rfl, hb⟩
                      have KF := Lib.hid (fits_any (.slice Aa na ca) a aB _ (SlS.below hva hb) (by have := HNA.out; omega) (BigW.below HE.out hb))
                      rcases Bool.eq_false_or_eq_true (bigL a) with hbig | hbig
                      · rw [hbig, if_pos rfl] at KF
                        unfold bigV at KF
                        go_wp2_with fail
                        refine KF.out.mono ?_
                        rintro e wf ⟨rfl, hbn⟩
                        replace hb := hb.trans (hbn.mono hb.size)
                        go_wp2_with fail
                        go_meet
                        exact ⟨rfl, hb⟩
                      rw [hbig, if_neg Bool.noConfusion] at KF
                      have Fa := Lib.hid hbig
                      clear hbig
                      go_wp2_with fail
                      refine KF.out.mono ?_
                      clear KF
                      rintro e wfa ⟨rfl, hbn⟩
                      replace hb := hb.trans (hbn.mono hb.size)
                      clear hbn
                      have KF := Lib.hid (fits_any (.slice Ab nb cb) b aB _ (SlS.below hvb hb) (by have := HNB.out; omega) (BigW.below HE.out hb))
                      rcases Bool.eq_false_or_eq_true (bigL b) with hbig | hbig
                      · rw [hbig, if_pos rfl] at KF
                        unfold bigV at KF
                        go_wp2_with fail
                        refine KF.out.mono ?_
                        rintro e wf ⟨rfl, hbn⟩
                        replace hb := hb.trans (hbn.mono hb.size)
                        go_wp2_with fail
                        go_meet
                        exact ⟨rfl, hb⟩
                      rw [hbig, if_neg Bool.noConfusion] at KF
                      have Fb := Lib.hid hbig
                      clear hbig
                      go_wp2_with fail
                      refine KF.out.mono ?_
                      clear KF
                      rintro e wfb ⟨rfl, hbn⟩
                      replace hb := hb.trans (hbn.mono hb.size)
                      clear hbn
                      have KF := Lib.hid (fits_any (.slice Ac nc cc) c aB _ (SlS.below hvc hb) (by have := HNC.out; omega) (BigW.below HE.out hb))
                      rcases Bool.eq_false_or_eq_true (bigL c) with hbig | hbig
                      · rw [hbig, if_pos rfl] at KF
                        unfold bigV at KF
                        go_wp2_with fail
                        refine KF.out.mono ?_
                        rintro e wf ⟨rfl, hbn⟩
                        replace hb := hb.trans (hbn.mono hb.size)
                        go_wp2_with fail
                        go_meet
                        exact ⟨rfl, hb⟩
                      rw [hbig, if_neg Bool.noConfusion] at KF
                      have Fc := Lib.hid hbig
                      clear hbig
                      go_wp2_with fail
                      refine KF.out.mono ?_
                      clear KF
                      rintro e wfc ⟨rfl, hbn⟩
                      replace hb := hb.trans (hbn.mono hb.size)
                      clear hbn
                      exact absurd ⟨by omega, Fa.out, Fb.out, Fc.out⟩ HNG.out
                  · have K := Lib.hid (sameTexts_v (.slice A3 n3 c3) (.slice A4 n4 c4) _ _ _ hs3 hs4 S3.out.1 S4.out.1)
                    rw [decide_eq_false hxy] at K
                    clear hxy
                    go_wp2_with fail
                    refine K.out.mono ?_
                    clear K
                    rintro e w16 ⟨rfl, hbn⟩
                    replace hb := hb.trans (hbn.mono hb.size)
                    clear hbn
                    by_cases hsum : 100 < na + nb + nc
                    · go_wp2_with fail
                      go_meet
                      exact ⟨rfl, hb⟩
                    have KF := Lib.hid (fits_any (.slice Aa na ca) a aB _ (SlS.below hva hb) (by have := HNA.out; omega) (BigW.below HE.out hb))
                    rcases Bool.eq_false_or_eq_true (bigL a) with hbig | hbig
                    · rw [hbig, if_pos rfl] at KF
                      unfold bigV at KF
                      go_wp2_with fail
                      refine KF.out.mono ?_
                      rintro e wf ⟨rfl, hbn⟩
                      replace hb := hb.trans (hbn.mono hb.size)
                      go_wp2_with fail
                      go_meet
                      exact ⟨rfl, hb⟩
                    rw [hbig, if_neg Bool.noConfusion] at KF
                    have Fa := Lib.hid hbig
                    clear hbig
                    go_wp2_with fail
                    refine KF.out.mono ?_
                    clear KF
                    rintro e wfa ⟨rfl, hbn⟩
                    replace hb := hb.trans (hbn.mono hb.size)
                    clear hbn
                    have KF := Lib.hid (fits_any (.slice Ab nb cb) b aB _ (SlS.below hvb hb) (by have := HNB.out; omega) (BigW.below HE.out hb))
                    rcases Bool.eq_false_or_eq_true (bigL b) with hbig | hbig
                    · rw [hbig, if_pos rfl] at KF
                      unfold bigV at KF
                      go_wp2_with fail
                      refine KF.out.mono ?_
                      rintro e wf ⟨rfl, hbn⟩
                      replace hb := hb.trans (hbn.mono hb.size)
                      go_wp2_with fail
                      go_meet
                      exact ⟨rfl, hb⟩
                    rw [hbig, if_neg Bool.noConfusion] at KF
                    have Fb := Lib.hid hbig
                    clear hbig
                    go_wp2_with fail
                    refine KF.out.mono ?_
                    clear KF
                    rintro e wfb ⟨rfl, hbn⟩
                    replace hb := hb.trans (hbn.mono hb.size)
                    clear hbn
                    have KF := Lib.hid (fits_any (.slice Ac nc cc) c aB _ (SlS.below hvc hb) (by have := HNC.out; omega) (BigW.below HE.out hb))
                    rcases Bool.eq_false_or_eq_true (bigL c) with hbig | hbig
                    · rw [hbig, if_pos rfl] at KF
                      unfold bigV at KF
                      go_wp2_with fail
                      refine KF.out.mono ?_
                      rintro e wf ⟨rfl, hbn⟩
                      replace hb := hb.trans (hbn.mono hb.size)
                      go_wp2_with fail
                      go_meet
                      exact ⟨rfl, hb⟩
                    rw [hbig, if_neg Bool.noConfusion] at KF
                    have Fc := Lib.hid hbig
                    clear hbig
                    go_wp2_with fail
                    refine KF.out.mono ?_
                    clear KF
                    rintro e wfc ⟨rfl, hbn⟩
                    replace hb := hb.trans (hbn.mono hb.size)
                    clear hbn
                    exact absurd ⟨by omega, Fa.out, Fb.out, Fc.out⟩ HNG.out
    case rest =>
    clear hb
    obtain ⟨rfl, hb⟩ := hcut
    clear hs1 hs2 hs3 hs4 hs5 S1 S2 S3 S4 S5 H1 H2 H3 H4 H5 E1 E2 E3 E4 E5
    obtain ⟨R1, hR1⟩ : ∃ R, R = joinL [a, b] := ⟨_, rfl⟩
    have S1 := Lib.hid (show Sml (R1.getD []) by rw [hR1]; exact sml_join)
    have K := Lib.hid (joinN #[.slice Aa na ca, .slice Ab nb cb] [a, b] 2 aB _ (AllS.two (hva.below hb) (hvb.below hb)) rfl (by show 2 ≤ 1000; decide) (sml_two SA.out SB.out) (HE.out.below hb))
    rw [← hR1] at K
    have H1 := Lib.hid hR1
    clear hR1
    go_wp2_with fail
    refine K.out.mono ?_
    clear K
    rintro e w21 h1
    obtain ⟨A1, n1, c1, er1, rfl, he1, hs1, hbn⟩ := h1.lw
    replace hb := hb.trans (hbn.mono hb.size)
    have E1 := Lib.hid he1
    clear h1 he1
    clear hbn
    obtain ⟨R2, hR2⟩ : ∃ R, R = joinL [b, c] := ⟨_, rfl⟩
    have S2 := Lib.hid (show Sml (R2.getD []) by rw [hR2]; exact sml_join)
    have K := Lib.hid (joinN #[.slice Ab nb cb, .slice Ac nc cc] [b, c] 2 aB _ (AllS.two (hvb.below hb) (hvc.below hb)) rfl (by show 2 ≤ 1000; decide) (sml_two SB.out SC.out) (HE.out.below hb))
    rw [← hR2] at K
    have H2 := Lib.hid hR2
    clear hR2
    go_wp2_with fail
    refine K.out.mono ?_
    clear K
    rintro e w22 h2
    obtain ⟨A2, n2, c2, er2, rfl, he2, hs2, hbn⟩ := h2.lw
    replace hb := hb.trans (hbn.mono hb.size)
    have E2 := Lib.hid he2
    clear h2 he2
    replace hs1 := hs1.below hbn
    clear hbn
    obtain ⟨R3, hR3⟩ : ∃ R, R = joinL [R1.getD [], c] := ⟨_, rfl⟩
    have S3 := Lib.hid (show Sml (R3.getD []) by rw [hR3]; exact sml_join)
    have K := Lib.hid (joinN #[.slice A1 n1 c1, .slice Ac nc cc] [R1.getD [], c] 2 aB _ (AllS.two hs1 (hvc.below hb)) rfl (by show 2 ≤ 1000; decide) (sml_two S1.out SC.out) (HE.out.below hb))
    rw [← hR3] at K
    have H3 := Lib.hid hR3
    clear hR3
    go_wp2_with fail
    refine K.out.mono ?_
    clear K
    rintro e w23 h3
    obtain ⟨A3, n3, c3, er3, rfl, he3, hs3, hbn⟩ := h3.lw
    replace hb := hb.trans (hbn.mono hb.size)
    have E3 := Lib.hid he3
    clear h3 he3
    replace hs2 := hs2.below hbn
    clear hbn hs1
    obtain ⟨R4, hR4⟩ : ∃ R, R = joinL [a, R2.getD []] := ⟨_, rfl⟩
    have S4 := Lib.hid (show Sml (R4.getD []) by rw [hR4]; exact sml_join)
    have K := Lib.hid (joinN #[.slice Aa na ca, .slice A2 n2 c2] [a, R2.getD []] 2 aB _ (AllS.two (hva.below hb) hs2) rfl (by show 2 ≤ 1000; decide) (sml_two SA.out S2.out) (HE.out.below hb))
    rw [← hR4] at K
    have H4 := Lib.hid hR4
    clear hR4
    go_wp2_with fail
    refine K.out.mono ?_
    clear K
    rintro e w24 h4
    obtain ⟨A4, n4, c4, er4, rfl, he4, hs4, hbn⟩ := h4.lw
    replace hb := hb.trans (hbn.mono hb.size)
    have E4 := Lib.hid he4
    clear h4 he4
    replace hs3 := hs3.below hbn
    clear hbn hs2
    obtain ⟨R5, hR5⟩ : ∃ R, R = joinL [a, b, c] := ⟨_, rfl⟩
    have S5 := Lib.hid (show Sml (R5.getD []) by rw [hR5]; exact sml_join)
    have K := Lib.hid (joinN #[.slice Aa na ca, .slice Ab nb cb, .slice Ac nc cc] [a, b, c] 3 aB _ (AllS.three (hva.below hb) (hvb.below hb) (hvc.below hb)) rfl (by show 3 ≤ 1000; decide) (sml_three SA.out SB.out SC.out) (HE.out.below hb))
    rw [← hR5] at K
    have H5 := Lib.hid hR5
    clear hR5
    go_wp2_with fail
    refine K.out.mono ?_
    clear K
    rintro e w25 h5
    obtain ⟨A5, n5, c5, er5, rfl, he5, hs5, hbn⟩ := h5.lw
    replace hb := hb.trans (hbn.mono hb.size)
    have E5 := Lib.hid he5
    clear h5 he5
    replace hs3 := hs3.below hbn
    replace hs4 := hs4.below hbn
    clear hbn
    cases R1 with
    | none =>
      obtain rfl := E1.out
      clear E1
      simp only [errV, bigV]
      go_wp2_with fail
      go_ret
      exact ⟨rfl, hb⟩
    | some ab =>
      obtain rfl := E1.out
      clear E1
      simp only [errV]
      cases R2 with
      | none =>
        obtain rfl := E2.out
        clear E2
        simp only [errV, bigV]
        go_wp2_with fail
        go_ret
        exact ⟨rfl, hb⟩
      | some bc =>
        obtain rfl := E2.out
        clear E2
        simp only [errV]
        cases R3 with
        | none =>
          obtain rfl := E3.out
          clear E3
          simp only [errV, bigV]
          go_wp2_with fail
          go_ret
          exact ⟨rfl, hb⟩
        | some x =>
          obtain rfl := E3.out
          clear E3
          simp only [errV]
          cases R4 with
          | none =>
            obtain rfl := E4.out
            clear E4
            simp only [errV, bigV]
            go_wp2_with fail
            go_ret
            exact ⟨rfl, hb⟩
          | some y =>
            obtain rfl := E4.out
            clear E4
            simp only [errV]
            simp only [Option.getD_some] at hs3 hs4 hs5 S3 S4 S5 H3 H4
            obtain ⟨f5, rfl⟩ := join_group H1.out.symm H2.out.symm H3.out.symm H4.out.symm
            obtain rfl : R5 = some y := H5.out.trans f5
            clear H1 H2 H3 H4 H5 f5
            obtain rfl := E5.out
            clear E5
            simp only [errV]
            simp only [Option.getD_some] at hs5 S5
            have K := Lib.hid (sameTexts_v (.slice A3 n3 c3) (.slice A4 n4 c4) _ _ _ hs3 hs4 S3.out.1 S4.out.1)
            rw [decide_eq_true rfl] at K
            go_wp2_with fail
            refine K.out.mono ?_
            clear K
            rintro e w16 ⟨rfl, hbn⟩
            replace hb := hb.trans (hbn.mono hb.size)
            replace hs3 := hs3.below hbn
            replace hs5 := hs5.below hbn
            clear hbn
            have K := Lib.hid (sameTexts_v (.slice A3 n3 c3) (.slice A5 n5 c5) _ _ _ hs3 hs5 S3.out.1 S5.out.1)
            rw [decide_eq_true rfl] at K
            go_wp2_with fail
            refine K.out.mono ?_
            clear K
            rintro e w17 ⟨rfl, hbm⟩
            replace hb := hb.trans (hbm.mono hb.size)
            go_wp2_with fail
            go_ret
            exact ⟨rfl, hb⟩
end Go.Proofs.YtckcpokfjofcaaaDoor
