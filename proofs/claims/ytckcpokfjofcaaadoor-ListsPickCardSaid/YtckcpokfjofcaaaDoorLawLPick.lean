/- ListsPick: for every list of texts the law answers true. What the package-level error holds is a hypothesis. -/
import Derived.Test.YtckcpokfjofcaaaDoorListWB
set_option linter.unusedVariables false
set_option linter.unusedSimpArgs false
namespace Go.Proofs.YtckcpokfjofcaaaDoor
open Go.RowKit

theorem pick_at {L : List (List UInt8)} {k : Nat} (h : k < L.length) : pickL L ((k : Int) + 1) = [L[k]] := by
  unfold pickL
  rw [if_neg (by omega), show ((k : Int) + 1 - 1).toNat = k by omega, List.getD_eq_getElem?_getD, List.getElem?_eq_getElem h]
  rfl
theorem pick_out {L : List (List UInt8)} {n : Int} (h : n < 1 ∨ (L.length : Int) < n) : pickL L n = [] := by
  unfold pickL
  rw [if_pos h]
set_option maxRecDepth 100000 in
set_option maxHeartbeats 4000000 in
theorem lpick_card (A : Option Addr) (c : Nat) (L : List (List UInt8)) (aB : Addr) (w : World) (hr : RdL w 1 strc A L) (hc : L.length ≤ c) (hm : c ≤ maxLen) (hn : A = none → c = 0) (hs : ∀ x ∈ L, x.length ≤ 140737488355328) (hE : BigW w aB) :
    Calls Tryd.prog 7 #[.slice A L.length c] w fun e w' => e = .returned (.bool true) ∧ Below w.heap.size w w' := by
  have hv : SlS w (.slice A L.length c) L := ⟨A, c, rfl, hr, hn, hc, hm⟩
  obtain ⟨i0, hi, hz0, hz1, hz2⟩ := info_parts infoStr
  have HS := Lib.hid hs
  obtain ⟨m, hm0⟩ : ∃ m, m = L.length := ⟨_, rfl⟩
  have HM := Lib.hid hm0
  rw [← hm0] at hv ⊢
  have C1 := Lib.hid (first3_any aB w hE)
  clear hr hc hn hs hE hm0
  go_enter Tryd.func7, Tryd.ntmps7
  go_wp2_with fail
  refine C1.out.mono ?_
  rintro e w1 ⟨rfl, hb⟩
  clear C1
  by_cases h60 : 60 < m
  · go_wp2_with fail
    go_ret
    exact ⟨rfl, hb⟩
  have CL := Lib.hid (lightN #[.slice A m c] [L] 1 w1 (AllS.one (hv.below hb)) rfl (by show 1 ≤ 1000; decide) (fun x hx s hxs => by
    rw [List.mem_singleton] at hx
    subst hx
    exact HS.out s hxs))
  generalize lightL [L] = q at *
  go_wp2_with fail
  refine CL.out.mono ?_
  rintro e w2 ⟨rfl, hbn⟩
  replace hb := hb.trans (hbn.mono hb.size)
  clear CL hbn
  cases q with
  | false =>
    go_wp2_with fail
    go_ret
    exact ⟨rfl, hb⟩
  | true =>
    go_wp2_with fail
    go_loopw [4, 5] (fun v i wr => ∃ k : Nat, k ≤ m ∧ i = .int .i64 ((k : Int) + 1) ∧ wr.ownsRow w.heap.size 9 1 v k ((L.take k).flatMap strc) ∧ Below w.heap.size w wr)
      (fun _ i _ => m + 1 - (intOf i).toNat)
    case atStart => exact ⟨0, Nat.zero_le _, rfl, World.ownsRow_nil _ _ _ _, hb⟩
    case round =>
      clear hb
      obtain ⟨k, hk, rfl, hown, hb⟩ := hrel
      by_cases hlt : k < m
      · have hkL : k < L.length := by rw [← HM.out]; exact hlt
        have CP := Lib.hid (pick_any (.slice A m c) L ((k : Int) + 1) wr (hv.below hb) (by rw [← HM.out]; omega) (by omega))
        rw [pick_at hkL] at CP
        have HT := Lib.hid (show L.take (k + 1) = L.take k ++ [L[k]] from List.take_succ_eq_append_getElem hkL)
        generalize L[k] = x at *
        clear hkL
        go_wp2_with fail
        refine CP.out.mono ?_
        rintro e w3 ⟨v3, rfl, ho3, hbn⟩
        obtain ⟨A3, c3, rfl, hr3, hn3, _, _⟩ := ho3.rd
        replace hb := hb.trans (hbn.mono hb.size)
        replace hown := own_below hown hbn
        clear hbn CP ho3
        go_wp2_with (at_builtin; refine wpList_pushAll (enc := strc) rfl _ _ _ rfl Tryd.underlying22 hi hz0 hz1 hz2 rfl (by decide) hown rfl rfl rfl hr3 hn3 trivial strc_len strc_one (by omega) (by decide) hb.size ?_; intro A4 c4 w4 ho4 hb4 hoo4)
        have HO := Lib.hid (show w4.ownsRow w.heap.size 9 1 (.slice A4 (k + 1) c4) (k + 1) ((L.take (k + 1)).flatMap strc) by rw [HT.out, List.flatMap_append]; exact ho4)
        have hb5 := hb.trans hb4
        clear hown ho4 hb4 hoo4 hr3 hn3 HT hb
        go_wp2_with fail
        go_roundw
        case rel => exact ⟨k + 1, by omega, by go_num, HO.out, hb5⟩
        case measure => simp [intOf]; omega
      · obtain rfl : m = k := by omega
        have HO := Lib.hid (show OwnS wr w.heap.size u4 L by
          unfold OwnS
          rw [← HM.out]
          rwa [show L.take m = L by rw [HM.out, List.take_length]] at hown)
        have so := HO.out.rd
        obtain ⟨A5, c5, rfl, _⟩ := HO.out.rd
        rw [← HM.out] at so ⊢
        have hL : L.length ≤ 60 := by rw [← HM.out]; omega
        have CC := Lib.hid (count_any (.slice A m c) L wr (hv.below hb) (by omega))
        have HDN := Lib.hid (dec_numeral m (by omega))
        rw [← HM.out] at CC
        generalize Lib.decDigits m = dd at *
        clear hown HO
        go_wp2_with fail
        refine CC.out.mono ?_
        rintro e w6 ⟨v6, rfl, ho6, hbn⟩
        have s6 := ho6.rd
        replace hb := hb.trans (hbn.mono hb.size)
        replace so := so.below hbn
        clear hbn CC ho6
        obtain ⟨A6, c6, rfl, hr6, _⟩ := s6
        obtain ⟨g6, o6, rfl⟩ := hr6.ats (k := 0) (Nat.zero_lt_succ _)
        have e6 := hr6.strs (k := 0) (Nat.zero_lt_succ _)
        rw [Nat.add_zero] at e6
        have C7 := Lib.hid (sameTexts_v _ _ L L w6 so (hv.below hb) (by omega) (by omega))
        rw [decide_eq_true rfl] at C7
        go_wp2_with fail
        refine C7.out.mono ?_
        rintro e w7 ⟨rfl, hbn⟩
        replace hb := hb.trans (hbn.mono hb.size)
        replace so := so.below hbn
        replace e6 := cell_keep hbn e6
        clear hbn C7 hr6
        have C8 := Lib.hid (same_any _ _ L L w7 so (hv.below hb) (by omega) (by omega))
        rw [decide_eq_true rfl] at C8
        go_wp2_with fail
        refine C8.out.mono ?_
        rintro e w8 ⟨rfl, hbn⟩
        replace hb := hb.trans (hbn.mono hb.size)
        replace e6 := cell_keep hbn e6
        clear hbn C8 so
        have C9 := Lib.hid (pick_any (.slice A m c) L 0 w8 (hv.below hb) (by omega) (by decide))
        rw [pick_out (.inl (by decide))] at C9
        go_wp2_with fail
        refine C9.out.mono ?_
        rintro e w9 ⟨v9, rfl, ho9, hbn⟩
        obtain ⟨A9, c9, rfl, _⟩ := ho9.rd
        replace hb := hb.trans (hbn.mono hb.size)
        replace e6 := cell_keep hbn e6
        clear hbn C9 ho9
        have C10 := Lib.hid (pick_any (.slice A m c) L ((m : Int) + 1) w9 (hv.below hb) (by omega) (by omega))
        rw [pick_out (.inr (by rw [← HM.out]; omega))] at C10
        go_wp2_with fail
        refine C10.out.mono ?_
        rintro e w10 ⟨v10, rfl, ho10, hbn⟩
        obtain ⟨A10, c10, rfl, _⟩ := ho10.rd
        replace hb := hb.trans (hbn.mono hb.size)
        replace e6 := cell_keep hbn e6
        clear hbn C10 ho10
        have C11 := Lib.hid (pick_any (.slice A m c) L (-1) w10 (hv.below hb) (by omega) (by decide))
        rw [pick_out (.inl (by decide))] at C11
        go_wp2_with fail
        refine C11.out.mono ?_
        rintro e w11 ⟨v11, rfl, ho11, hbn⟩
        obtain ⟨A11, c11, rfl, _⟩ := ho11.rd
        replace hb := hb.trans (hbn.mono hb.size)
        replace e6 := cell_keep hbn e6
        clear hbn C11 ho11
        have C12 := Lib.hid (parse_any ⟨dd.toArray⟩ w11 HDN.out.1)
        rw [show valD (⟨dd.toArray⟩ : ByteArray).data.toList = m from HDN.out.2] at C12
        have e6' : w11.cell? ⟨g6, o6, none⟩ = some (.string ⟨dd.toArray⟩) := e6
        clear e6
        go_wp2_with fail
        refine C12.out.mono ?_
        rintro e w12 ⟨rfl, rfl⟩
        go_wp2_with fail
        go_ret
        exact ⟨rfl, hb⟩
end Go.Proofs.YtckcpokfjofcaaaDoor
