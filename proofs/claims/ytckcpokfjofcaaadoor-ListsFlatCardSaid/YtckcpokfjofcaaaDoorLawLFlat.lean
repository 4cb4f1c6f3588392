/- ListsFlat: for every list of texts the law answers true. What the package-level error holds is a hypothesis. -/
import Derived.Test.YtckcpokfjofcaaaDoorListWF
import Derived.Test.YtckcpokfjofcaaaDoorListWE
import Derived.Test.YtckcpokfjofcaaaDoorListF
set_option linter.unusedVariables false
set_option linter.unusedSimpArgs false
namespace Go.Proofs.YtckcpokfjofcaaaDoor
open Go.RowKit

theorem Thin.of_big {l : List (List UInt8)} (h : bigL l = false) : Thin l := ⟨by have := (bigL_false.1 h).1; omega, fun s hs => by have := (bigL_false.1 h).2 s hs; omega⟩
set_option maxRecDepth 100000 in
set_option maxHeartbeats 4000000 in
theorem lflat_card (A : Option Addr) (c : Nat) (L : List (List UInt8)) (aB : Addr) (w : World) (hr : RdL w 1 strc A L) (hc : L.length ≤ c) (hm : c ≤ maxLen) (hn : A = none → c = 0) (hs : ∀ x ∈ L, x.length ≤ 140737488355328) (hE : BigW w aB) :
    Calls Tryd.prog 6 #[.slice A L.length c] w fun e w' => e = .returned (.bool true) ∧ Below w.heap.size w w' := by
  have hv : SlS w (.slice A L.length c) L := ⟨A, c, rfl, hr, hn, hc, hm⟩
  have HS := Lib.hid hs
  obtain ⟨m, hm0⟩ : ∃ m, m = L.length := ⟨_, rfl⟩
  have HM := Lib.hid hm0
  rw [← hm0] at hv ⊢
  have HE := Lib.hid hE
  have C1 := Lib.hid (first3_any aB w hE)
  clear hc hn hs hE hm0
  go_enter Tryd.func6, Tryd.ntmps6
  go_wp2_with fail
  refine C1.out.mono ?_
  rintro e w1 ⟨rfl, hb⟩
  clear C1
  by_cases h30 : 30 < m
  · go_wp2_with fail
    go_ret
    exact ⟨rfl, hb⟩
  have CL := Lib.hid (lightN #[.slice A m c] [L] 1 w1 (AllS.one (hv.below hb)) rfl (by show 1 ≤ 1000; decide) (fun x hx s hxs => by
    rw [List.mem_singleton] at hx
    subst hx
    exact HS.out s hxs))
  have HLT := Lib.hid (fun h : lightL [L] = true => light_small h L (by simp))
  generalize lightL [L] = q at *
  go_wp2_with fail
  refine CL.out.mono ?_
  rintro e w2 ⟨rfl, hbn⟩
  replace hb := hb.trans (hbn.mono hb.size)
  clear CL hbn HS
  cases q with
  | false =>
    go_wp2_with fail
    go_ret
    exact ⟨rfl, hb⟩
  | true =>
    have HTH := Lib.hid (show Thin L from ⟨by rw [← HM.out]; omega, fun s hs => by have := (HLT.out rfl).2 s hs; omega⟩)
    clear HLT
    go_wp2_with fail
    go_loopw [4] (fun i wr => ∃ k : Nat, k ≤ m ∧ i = .int .i64 k ∧ w2 = wr ∧ Hid (∀ s ∈ L.take k, s ≠ [])) (fun i _ => m - (intOf i).toNat)
    case atStart => exact ⟨0, Nat.zero_le _, rfl, rfl, Lib.hid (fun s hs => by simp at hs)⟩
    case round =>
      obtain ⟨k, hk, rfl, hwr, HN⟩ := hrel
      subst hwr
      by_cases hlt : k < m
      · have hkL : k < L.length := by rw [← HM.out]; exact hlt
        obtain ⟨b, o, rfl⟩ := hr.ats hkL
        have cx := cell_keep hb (hr.strs hkL)
        have HT := Lib.hid (List.take_succ_eq_append_getElem hkL)
        generalize L[k] = x at *
        cases x with
        | nil =>
          clear HT hkL
          go_wp2_with fail
          go_ret
          exact ⟨rfl, hb⟩
        | cons d t =>
          have HN2 := Lib.hid (show ∀ s ∈ L.take (k + 1), s ≠ [] from fun s hs => by
            rw [HT.out, List.mem_append, List.mem_singleton] at hs
            rcases hs with hs | rfl
            · exact HN.out s hs
            · simp)
          clear HT hkL HN
          generalize hdt : d :: t = x at *
          have hx0 : (⟨x.toArray⟩ : ByteArray).data.toList.isEmpty = false := by rw [← hdt]; rfl
          have hx1 : x.isEmpty = false := by rw [← hdt]; rfl
          clear hdt
          go_wp2_with fail
          go_roundw
          case rel => exact ⟨k + 1, by omega, by go_num, trivial, HN2⟩
          case measure => simp [intOf]; omega
      · obtain rfl : m = k := by omega
        have HNE := Lib.hid (show ∀ s ∈ L, s ≠ [] by
          have h := HN.out
          rwa [HM.out, List.take_length] at h)
        clear HN hlt
        have hL : m ≤ 30 := by omega
        have CE := Lib.hid (lesc_any _ L aB w2 (hv.below hb) HTH.out (HE.out.below hb))
        have H1 := Lib.hid (show ∀ r, eachL (fun s => [escapeL s]) L = some r → bigL r = false from fun r h => (esc_some h).2)
        have HB := Lib.hid (fun (a b : List (List UInt8)) h1 h2 => flat_back (l := L) (a := a) (b := b) HNE.out h1 h2)
        generalize eachL (fun s => [escapeL s]) L = R1 at *
        go_wp2_with fail
        refine CE.out.mono ?_
        clear CE
        rintro e w11 h1
        obtain ⟨v1, er1, rfl, he1, hs1, hbn⟩ := h1.lv
        replace hb := hb.trans (hbn.mono hb.size)
        have E1 := Lib.hid he1
        clear h1 he1
        have SA := Lib.hid (show (R1.getD []).length ≤ 1000000 ∧ ∀ s ∈ R1.getD [], s.length ≤ 140737488355328 by
          have h := H1.out
          cases R1 with
          | none => exact ⟨by decide, fun s hs => by cases hs⟩
          | some a =>
            have h2 := Thin.of_big (h a rfl)
            exact ⟨h2.1, fun s hs => by have := h2.2 s hs; omega⟩)
        have CF := Lib.hid (flat_any _ (R1.getD []) aB _ hs1 SA.out.1 SA.out.2 (HE.out.below hb))
        have HR2 := Lib.hid (show flatTx (R1.getD []) = flatTx (R1.getD []) from rfl)
        generalize hR2 : flatTx (R1.getD []) = R2 at *
        have HR2 := Lib.hid hR2
        clear hR2
        go_wp2_with fail
        refine CF.out.mono ?_
        clear CF
        rintro e w12 h2
        obtain ⟨v2, er2, rfl, he2, hs2, hbn⟩ := h2.lv
        replace hb := hb.trans (hbn.mono hb.size)
        have E2 := Lib.hid he2
        clear h2 he2
        replace hs1 := hs1.below hbn
        clear hbn
        cases R1 with
        | none =>
          obtain rfl := E1.out
          clear E1
          simp only [errV, bigV]
          go_wp2_with fail
          go_ret
          exact ⟨rfl, hb⟩
        | some a =>
          obtain rfl := E1.out
          clear E1
          simp only [errV]
          cases R2 with
          | none =>
            obtain rfl := E2.out
            clear E2
            simp only [errV, bigV]
            go_wp2_with fail
            go_ret
            exact ⟨rfl, hb⟩
          | some b =>
            obtain rfl := E2.out
            clear E2
            simp only [errV]
            simp only [Option.getD_some] at hs1 hs2
            have ha := H1.out a rfl
            obtain ⟨f1, f2⟩ := HB.out a b rfl HR2.out
            have hbg : Thin b := by
              have h2 : flatTx a = some b := HR2.out
              unfold flatTx at h2
              split at h2
              · cases h2
              · injection h2 with h2
                subst h2
                refine ⟨by show 1 ≤ 1000000; decide, fun s hs => ?_⟩
                rw [List.mem_singleton] at hs
                subst hs
                rw [spaced_len]
                omega
            have HTA := Lib.hid (Thin.of_big ha)
            have CS := Lib.hid (lsplit_any _ b aB _ hs2 hbg (HE.out.below hb))
            rw [f1] at CS
            have F2 := Lib.hid f2
            clear f1 f2 ha hbg H1 HB HR2 SA hs2
            go_wp2_with fail
            refine CS.out.mono ?_
            clear CS
            rintro e w13 h3
            obtain ⟨v3, er3, rfl, he3, hs3, hbn⟩ := h3.lv
            replace hb := hb.trans (hbn.mono hb.size)
            have E3 := Lib.hid he3
            clear h3 he3
            replace hs1 := hs1.below hbn
            clear hbn
            obtain rfl := E3.out
            clear E3
            simp only [errV]
            simp only [Option.getD_some] at hs3
            have CP := Lib.hid (lplain_any _ a aB _ hs3 HTA.out (HE.out.below hb))
            rw [F2.out] at CP
            go_wp2_with fail
            refine CP.out.mono ?_
            clear CP
            rintro e w14 h4
            obtain ⟨v4, er4, rfl, he4, hs4, hbn⟩ := h4.lv
            replace hb := hb.trans (hbn.mono hb.size)
            have E4 := Lib.hid he4
            clear h4 he4
            replace hs1 := hs1.below hbn
            replace hs3 := hs3.below hbn
            clear hbn
            obtain rfl := E4.out
            clear E4
            simp only [errV]
            simp only [Option.getD_some] at hs4
            have K := Lib.hid (sameTexts_v v3 v1 _ _ _ hs3 hs1 HTA.out.1 HTA.out.1)
            rw [decide_eq_true rfl] at K
            go_wp2_with fail
            refine K.out.mono ?_
            clear K
            rintro e w16 ⟨rfl, hbn⟩
            replace hb := hb.trans (hbn.mono hb.size)
            replace hs4 := hs4.below hbn
            clear hbn
            have K := Lib.hid (sameTexts_v v4 (.slice A m c) _ _ _ hs4 (hv.below hb) HTH.out.1 HTH.out.1)
            rw [decide_eq_true rfl] at K
            go_wp2_with fail
            refine K.out.mono ?_
            clear K
            rintro e w17 ⟨rfl, hbn⟩
            replace hb := hb.trans (hbn.mono hb.size)
            go_wp2_with fail
            go_ret
            exact ⟨rfl, hb⟩
end Go.Proofs.YtckcpokfjofcaaaDoor
