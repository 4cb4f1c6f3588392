/- The walk over CscanQuotes: for every two texts the law returns true. The condition: what the package-level errors hold. -/
import Derived.Test.YtlhpflilpdceiaaDoorLawScanB
set_option linter.unusedVariables false
set_option linter.unusedSimpArgs false
namespace Go.Proofs.YtlhpflilpdceiaaDoor
open Go.RowKit

theorem quoteT_len (s : List UInt8) : (quoteT s).length ≤ 2 * s.length + 2 := by
  unfold quoteT
  have := (quo_len s).2
  split
  · omega
  · simp only [List.length_cons, List.length_append, List.length_nil]
    omega
theorem ba_of (s : ByteArray) : (⟨s.data.toList.toArray⟩ : ByteArray) = s := ByteArray.ext (Array.ext' (by simp))
theorem two_list (l m : List UInt8) : (⟨#[120, 32]⟩ ++ ⟨l.toArray⟩ ++ ⟨#[32]⟩ ++ ⟨m.toArray⟩ ++ ⟨#[59, 121]⟩ : ByteArray).data.toList = 120 :: 32 :: (l ++ 32 :: (m ++ [59, 121])) := by simp
theorem brc_list (s : ByteArray) : (⟨#[120, 32, 123]⟩ ++ s ++ ⟨#[125, 32, 121]⟩ : ByteArray).data.toList = 120 :: 32 :: 123 :: (s.data.toList ++ [125, 32, 121]) := by simp
theorem brc_eq (s : ByteArray) : (⟨(123 :: (s.data.toList ++ [125])).toArray⟩ : ByteArray) = ⟨#[123]⟩ ++ s ++ ⟨#[125]⟩ := by
  apply ByteArray.ext
  apply Array.ext'
  simp
theorem fine_true {l : List UInt8} {R : ScR} (h : fineL l R = true) : ∃ p a x b, R = .ok [⟨p, [a, x, b]⟩] ∧ x.braced = true ∧ textW x = (l, true) := by
  unfold fineL at h
  split at h
  · rename_i p a x b
    rw [Bool.and_eq_true] at h
    exact ⟨_, _, _, _, rfl, h.1, of_decide_eq_true h.2⟩
  · cases h
theorem brV_eq (s : ByteArray) : brV s.data.toList = if shutB s.data.toList then .tuple #[.string (⟨#[123]⟩ ++ s ++ ⟨#[125]⟩), .bool true] else .tuple #[.string { data := #[] }, .bool false] := by
  unfold brV
  rw [brace_law]
  cases shutB s.data.toList with
  | true =>
    simp only [if_true]
    rw [brc_eq]
  | false => rfl
set_option maxRecDepth 100000 in
set_option maxHeartbeats 8000000 in
theorem scanquotes_card (s t : ByteArray) (Ls : List Addr) (w : World) (hE : SenW w Ls) : Calls Tryd.prog 3 #[.string s, .string t] w (Ret w (.bool true)) := by
  have HE := Lib.hid hE
  have H1 := Lib.hid (first14_any Ls w hE)
  clear hE
  by_cases hs : s.size ≤ 300
  · by_cases ht : t.size ≤ 300
    · obtain ⟨w0, hq1, hq2, hq3⟩ := quotes_one s.data.toList
      obtain ⟨x0, x1, x2, x3, hr1, hr2, hr3⟩ := quotes_two s.data.toList t.data.toList
      have hl1 := quoteT_len s.data.toList
      have hl2 := quoteT_len t.data.toList
      have hz1 : s.data.toList.length = s.size := rfl
      have hz2 : t.data.toList.length = t.size := rfl
      have hlq1 : (quoteT s.data.toList).length ≤ 602 := by omega
      have hlq2 : (quoteT t.data.toList).length ≤ 602 := by omega
      have HQ1 := Lib.hid (fun (W : World) (hb : Below w.heap.size w W) => cquote_any s Ls W (HE.out.below hb) (by omega))
      have HQ2 := Lib.hid (fun (W : World) (hb : Below w.heap.size w W) => cquote_any t Ls W (HE.out.below hb) (by omega))
      have X1 := Lib.hid (fun (W : World) (hb : Below w.heap.size w W) => scan_of ⟨(quoteT s.data.toList).toArray⟩ (quoteT s.data.toList) _ Ls W (HE.out.below hb) (by simp) hq1 (by omega))
      have X2 := Lib.hid (fun (W : World) (hb : Below w.heap.size w W) => scan_of _ _ _ Ls W (HE.out.below hb) (two_list (quoteT s.data.toList) (quoteT t.data.toList)) hr1 (by simp only [List.length_cons, List.length_append, List.length_nil]; omega))
      obtain ⟨R, hR⟩ : ∃ R, R = scanL 0 (120 :: 32 :: 123 :: (s.data.toList ++ [125, 32, 121])) [] [] := ⟨_, rfl⟩
      have X3 := Lib.hid (fun (W : World) (hb : Below w.heap.size w W) => scan_of _ _ R Ls W (HE.out.below hb) (brc_list s) hR.symm (by simp only [List.length_cons, List.length_append, List.length_nil]; omega))
      have HF := Lib.hid (show fineL s.data.toList R = shutB s.data.toList by rw [hR]; exact fine_brace _)
      have XB := Lib.hid (fun (W : World) (hb : Below w.heap.size w W) => cbrace_any s Ls W (HE.out.below hb) (by omega))
      obtain ⟨sb, hsb⟩ : ∃ sb, sb = shutB s.data.toList := ⟨_, rfl⟩
      rw [brV_eq] at XB
      rw [← hsb] at XB HF
      have HT1 := Lib.hid (show (⟨(textW w0).1.toArray⟩ : ByteArray) = s ∧ (textW w0).2 = true by rw [hq2]; exact ⟨ba_of s, rfl⟩)
      have HT2 := Lib.hid (show (⟨(textW x1).1.toArray⟩ : ByteArray) = s ∧ (textW x1).2 = true by rw [hr2]; exact ⟨ba_of s, rfl⟩)
      have HT3 := Lib.hid (show (⟨(textW x2).1.toArray⟩ : ByteArray) = t ∧ (textW x2).2 = true by rw [hr3]; exact ⟨ba_of t, rfl⟩)
      have HW0 := Lib.hid hq3
      have HDL := Lib.hid (show (s.data.toList = s.data.toList) from rfl)
      obtain ⟨q1, hq1e⟩ : ∃ q : ByteArray, q = ⟨(quoteT s.data.toList).toArray⟩ := ⟨_, rfl⟩
      obtain ⟨q2, hq2e⟩ : ∃ q : ByteArray, q = ⟨(quoteT t.data.toList).toArray⟩ := ⟨_, rfl⟩
      have hqs1 : q1.size ≤ 602 := by rw [hq1e]; show (quoteT s.data.toList).toArray.size ≤ 602; rw [List.size_toArray]; exact hlq1
      have hqs2 : q2.size ≤ 602 := by rw [hq2e]; show (quoteT t.data.toList).toArray.size ≤ 602; rw [List.size_toArray]; exact hlq2
      rw [← hq1e] at HQ1 X1 X2
      rw [← hq2e] at HQ2 X2
      clear hsb hq1 hq2 hq3 hr1 hr2 hr3 hl1 hl2 hz1 hz2 hlq1 hlq2 hR hq1e hq2e
      go_enter Tryd.func3, Tryd.ntmps3
      go_wp2_with fail
      refine H1.out.mono ?_
      rintro e wa ⟨rfl, hb⟩
      clear H1
      go_wp2_with fail
      refine (HQ1.out _ hb).mono ?_
      rintro e wb ⟨rfl, hb2⟩
      replace hb := hb.trans (hb2.mono hb.size)
      clear hb2 HQ1
      go_wp2_with fail
      refine (X1.out _ hb).mono ?_
      rintro e wc ⟨v2, rfl, hO2, hb3⟩
      have HV2 := Lib.hid hO2.rd
      replace hb := hb.trans (hb3.mono hb.size)
      clear hO2 hb3 X1
      go_wp2_with fail
      refine (HQ2.out _ hb).mono ?_
      rintro e wd ⟨rfl, hb4⟩
      replace HV2 := Lib.hid (HV2.out.below hb4)
      replace hb := hb.trans (hb4.mono hb.size)
      clear hb4 HQ2
      go_wp2_with fail
      refine (X2.out _ hb).mono ?_
      rintro e we ⟨v3, rfl, hO3, hb5⟩
      have HV3 := Lib.hid hO3.rd
      replace HV2 := Lib.hid (HV2.out.below hb5)
      replace hb := hb.trans (hb5.mono hb.size)
      clear hO3 hb5 X2
      obtain ⟨bl, ol, cl, m0, hv2, -, a1, hm0⟩ := HV2.out.at_ (k := 0) (by simp)
      subst hv2
      obtain ⟨bw, ow, cw, p0, hm0e, a2, a3, a4, hp0⟩ := hm0.at_ (k := 0) (by simp)
      subst hm0e
      obtain ⟨bm, om, cm, n0, hv3, -, b1, hn0⟩ := HV3.out.at_ (k := 0) (by simp)
      subst hv3
      obtain ⟨bn, on, cn, q0, hn0e, b2, b3, b4, hq0⟩ := hn0.at_ (k := 1) (by simp)
      obtain ⟨bn', on', cn', r0, hn0e', d2, d3, d4, hr0⟩ := hn0.at_ (k := 2) (by simp)
      have hnn := hn0e.symm.trans hn0e'
      simp only [Value.slice.injEq, Option.some.injEq, Addr.mk.injEq, and_true, true_and] at hnn
      obtain ⟨⟨rfl, rfl⟩, rfl⟩ := hnn
      subst hn0e
      simp only [List.getElem_cons_zero, List.getElem_cons_succ, List.length_cons, List.length_nil, Nat.zero_mul, Nat.one_mul, Nat.add_zero, Nat.zero_add] at a1 a2 a3 a4 b1 b2 b3 b4 d2 d3 d4 hp0 hq0 hr0
      rw [HW0.out] at a3
      clear hm0 hn0 hn0e' HV2 HV3
      have HC1 := Lib.hid (fun (W : World) (h : RdP W p0 w0.parts) => ctext_any w0 p0 W h)
      have HC2 := Lib.hid (fun (W : World) (h : RdP W q0 x1.parts) => ctext_any x1 q0 W h)
      have HC3 := Lib.hid (fun (W : World) (h : RdP W r0 x2.parts) => ctext_any x2 r0 W h)
      rw [HT1.out.1, HT1.out.2, HW0.out] at HC1
      rw [HT2.out.1, HT2.out.2] at HC2
      rw [HT3.out.1, HT3.out.2] at HC3
      obtain ⟨A0, c0, hp0e, _⟩ := id hp0
      obtain ⟨A1, c1, hq0e, _⟩ := id hq0
      obtain ⟨A2, c2, hr0e, _⟩ := id hr0
      rw [hp0e] at a4 hp0 HC1
      rw [hq0e] at b4 hq0 HC2
      rw [hr0e] at d4 hr0 HC3
      clear hp0e hq0e hr0e
      go_wp2_with fail
      refine (HC1.out _ hp0).mono ?_
      rintro e wf ⟨rfl, hb6⟩
      replace a1 := cell_keep hb6 a1
      replace a2 := cell_keep hb6 a2
      replace a3 := cell_keep hb6 a3
      replace a4 := cell_keep hb6 a4
      replace b1 := cell_keep hb6 b1
      replace b2 := cell_keep hb6 b2
      replace b3 := cell_keep hb6 b3
      replace b4 := cell_keep hb6 b4
      replace d2 := cell_keep hb6 d2
      replace d3 := cell_keep hb6 d3
      replace d4 := cell_keep hb6 d4
      replace hp0 := hp0.below hb6
      replace hq0 := hq0.below hb6
      replace hr0 := hr0.below hb6
      replace hb := hb.trans (Below.mono hb6 hb.size)
      clear hb6
      go_wp2_with fail
      refine (HC2.out _ hq0).mono ?_
      rintro e wg ⟨rfl, hb7⟩
      replace a1 := cell_keep hb7 a1
      replace a2 := cell_keep hb7 a2
      replace a3 := cell_keep hb7 a3
      replace a4 := cell_keep hb7 a4
      replace b1 := cell_keep hb7 b1
      replace b2 := cell_keep hb7 b2
      replace b3 := cell_keep hb7 b3
      replace b4 := cell_keep hb7 b4
      replace d2 := cell_keep hb7 d2
      replace d3 := cell_keep hb7 d3
      replace d4 := cell_keep hb7 d4
      replace hp0 := hp0.below hb7
      replace hq0 := hq0.below hb7
      replace hr0 := hr0.below hb7
      replace hb := hb.trans (Below.mono hb7 hb.size)
      clear hb7
      go_wp2_with fail
      refine (HC3.out _ hr0).mono ?_
      rintro e wh ⟨rfl, hb8⟩
      replace a1 := cell_keep hb8 a1
      replace a2 := cell_keep hb8 a2
      replace a3 := cell_keep hb8 a3
      replace a4 := cell_keep hb8 a4
      replace b1 := cell_keep hb8 b1
      replace b2 := cell_keep hb8 b2
      replace b3 := cell_keep hb8 b3
      replace b4 := cell_keep hb8 b4
      replace d2 := cell_keep hb8 d2
      replace d3 := cell_keep hb8 d3
      replace d4 := cell_keep hb8 d4
      replace hp0 := hp0.below hb8
      replace hq0 := hq0.below hb8
      replace hr0 := hr0.below hb8
      replace hb := hb.trans (Below.mono hb8 hb.size)
      clear hb8
      go_wp2_with fail
      refine (XB.out _ hb).mono ?_
      rintro e wi ⟨rfl, hb9⟩
      replace hb := hb.trans (hb9.mono hb.size)
      clear hb9 a1 a2 a3 a4 b1 b2 b3 b4 d2 d3 d4 hp0 hq0 hr0 HC1 HC2 HC3 XB
      cases sb with
      | true =>
        obtain ⟨p, a, x, b, hRe, hx1, hx2⟩ := fine_true HF.out
        subst hRe
        have HT4 := Lib.hid (show (⟨(textW x).1.toArray⟩ : ByteArray) = s ∧ (textW x).2 = true by rw [hx2]; exact ⟨ba_of s, rfl⟩)
        have HX1 := Lib.hid hx1
        clear HF hx1 hx2
        simp only [if_true]
        go_wp2_with fail
        refine (X3.out _ hb).mono ?_
        rintro e wj ⟨v4, rfl, hO4, hb10⟩
        have HV4 := Lib.hid hO4.rd
        replace hb := hb.trans (hb10.mono hb.size)
        clear hO4 hb10 X3
        obtain ⟨bl, ol, cl, m0, hv4, -, a1, hm0⟩ := HV4.out.at_ (k := 0) (by simp)
        subst hv4
        obtain ⟨bw, ow, cw, p0, hm0e, a2, a3, a4, hp0⟩ := hm0.at_ (k := 1) (by simp)
        subst hm0e
        simp only [List.getElem_cons_zero, List.getElem_cons_succ, List.length_cons, List.length_nil, Nat.zero_mul, Nat.one_mul, Nat.add_zero, Nat.zero_add] at a1 a2 a3 a4 hp0
        rw [HX1.out] at a3
        have HC4 := Lib.hid (ctext_any x p0 wj hp0)
        rw [HT4.out.1, HT4.out.2, HX1.out] at HC4
        obtain ⟨A0, c0, hp0e, _⟩ := id hp0
        rw [hp0e] at a4 HC4
        clear hm0 hp0 hp0e HV4
        go_wp2_with fail
        refine HC4.out.mono ?_
        rintro e wk ⟨rfl, hb11⟩
        go_wp2_with fail
        go_ret
        exact ⟨rfl, hb.trans (hb11.mono hb.size)⟩
      | false =>
        simp only [Bool.false_eq_true, if_false]
        go_wp2_with fail
        refine (X3.out _ hb).mono ?_
        cases R with
        | err k a =>
          rintro e wj ⟨v4, rfl, hE4, hb10⟩
          obtain ⟨_, _, ge, _, _, hv, _, _⟩ := hE4
          subst hv
          go_wp2_with fail
          go_ret
          exact ⟨rfl, hb.trans (hb10.mono hb.size)⟩
        | ok res =>
          rintro e wj ⟨v4, rfl, hO4, hb10⟩
          have HV4 := Lib.hid hO4.rd
          replace hb := hb.trans (hb10.mono hb.size)
          clear hO4 hb10 X3
          by_cases hl1 : res.length = 1
          · obtain ⟨c, rfl⟩ := List.length_eq_one_iff.1 hl1
            obtain ⟨bl, ol, cl, m0, hv4, -, a1, hm0⟩ := HV4.out.at_ (k := 0) (by simp)
            subst hv4
            simp only [List.getElem_cons_zero, List.getElem_cons_succ, List.length_cons, List.length_nil, Nat.zero_mul, Nat.one_mul, Nat.add_zero, Nat.zero_add] at a1 hm0
            obtain ⟨cp, cws⟩ := c
            simp only at hm0
            by_cases hl3 : cws.length = 3
            · obtain ⟨a, x, b, rfl⟩ : ∃ a x b, cws = [a, x, b] := by
                match cws, hl3 with
                | [a, x, b], _ => exact ⟨a, x, b, rfl⟩
              obtain ⟨bw, ow, cw, p0, hm0e, a2, a3, a4, hp0⟩ := hm0.at_ (k := 1) (by simp)
              subst hm0e
              simp only [List.getElem_cons_zero, List.getElem_cons_succ, List.length_cons, List.length_nil, Nat.zero_mul, Nat.one_mul, Nat.add_zero, Nat.zero_add] at a2 a3 a4 hp0
              have HNF := Lib.hid (show x.braced = true → ¬ textW x = (s.data.toList, true) from fun h1 h2 => by
                have := HF.out
                unfold fineL at this
                simp only [h1, h2] at this
                simp at this)
              clear HF hl1 hl3 hm0 HV4
              cases hbr : x.braced with
              | false =>
                rw [hbr] at a3
                clear a4 hp0 hbr HNF
                go_wp2_with fail
                go_ret
                exact ⟨rfl, hb⟩
              | true =>
                rw [hbr] at a3
                have HNT := Lib.hid (HNF.out hbr)
                have HC4 := Lib.hid (ctext_any x p0 wj hp0)
                rw [hbr] at HC4
                obtain ⟨A0, c0, hp0e, _⟩ := id hp0
                rw [hp0e] at a4 HC4
                obtain ⟨g, hg⟩ : ∃ g : ByteArray, g = ⟨(textW x).1.toArray⟩ := ⟨_, rfl⟩
                obtain ⟨tb, htb⟩ : ∃ tb, tb = (textW x).2 := ⟨_, rfl⟩
                rw [← hg, ← htb] at HC4
                have HNG := Lib.hid (show tb = true → (g.toList == s.toList) = false from fun h => by
                  rw [beq_eq_false_iff_ne, Lib.toList_data, Lib.toList_data]
                  intro he
                  refine HNT.out (Prod.ext ?_ (by rw [← htb, h]))
                  rw [← he, hg])
                clear hp0 hp0e hbr HNF HNT hg htb
                go_wp2_with fail
                refine HC4.out.mono ?_
                rintro e wk ⟨rfl, hb11⟩
                replace hb := hb.trans (hb11.mono hb.size)
                clear hb11 HC4 a1 a2 a3 a4
                cases tb with
                | false =>
                  clear HNG
                  go_wp2_with fail
                  go_ret
                  exact ⟨rfl, hb⟩
                | true =>
                  have hng := HNG.out rfl
                  clear HNG
                  go_wp2_with fail
                  go_ret
                  exact ⟨rfl, hb⟩
            · obtain ⟨A5, c5, vs5, hm0e, -⟩ := hm0
              subst hm0e
              obtain ⟨m, hm⟩ : ∃ m, m = cws.length := ⟨_, rfl⟩
              have e3 : ((m : Int) == 3) = false := by rw [beq_eq_false_iff_ne]; omega
              rw [← hm] at a1
              clear HF hl1 hl3 HV4 hm
              go_wp2_with fail
              go_ret
              exact ⟨rfl, hb⟩
          · obtain ⟨A5, c5, vs5, hv4, -⟩ := HV4.out
            subst hv4
            obtain ⟨m, hm⟩ : ∃ m, m = res.length := ⟨_, rfl⟩
            have e3 : ((m : Int) == 1) = false := by rw [beq_eq_false_iff_ne]; omega
            rw [← hm]
            clear HF hl1 HV4 hm
            go_wp2_with fail
            go_ret
            exact ⟨rfl, hb⟩
    · go_enter Tryd.func3, Tryd.ntmps3
      go_wp2_with fail
      refine H1.out.mono ?_
      rintro e w1 ⟨rfl, hb⟩
      go_wp2_with fail
      go_ret
      exact ⟨rfl, hb⟩
  · go_enter Tryd.func3, Tryd.ntmps3
    go_wp2_with fail
    refine H1.out.mono ?_
    rintro e w1 ⟨rfl, hb⟩
    go_wp2_with fail
    go_ret
    exact ⟨rfl, hb⟩
end Go.Proofs.YtlhpflilpdceiaaDoor
