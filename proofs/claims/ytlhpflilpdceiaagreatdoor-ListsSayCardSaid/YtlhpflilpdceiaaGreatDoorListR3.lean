/- The walks over the document's own two and Join. Bounds on the lengths. -/
import Derived.Test.YtlhpflilpdceiaaGreatDoorListR2
import Derived.Test.YtlhpflilpdceiaaGreatDoorJF
import Derived.Test.YtlhpflilpdceiaaGreatDoorJL
import Derived.Deep.CutBlock
import Derived.Deep.CutRange
set_option linter.unusedVariables false
set_option linter.unusedSimpArgs false
namespace Go.Proofs.YtlhpflilpdceiaaGreatDoor
open Go.RowKit

theorem at_one {a : List (List UInt8)} (k : Nat) (h : a.length = 1) : atI a k = a[0]'(by omega) := by
  have h1 : min k (a.length - 1) = 0 := by omega
  rw [atI, h1, List.getD_eq_getElem?_getD, List.getElem?_eq_getElem (by omega)]
  rfl
theorem at_in {a : List (List UInt8)} {k : Nat} (h : k < a.length) : atI a k = a[k] := by
  rw [atI, Nat.min_eq_left (by omega), List.getD_eq_getElem?_getD, List.getElem?_eq_getElem h]
  rfl
theorem pairs_get (a b : List (List UInt8)) (n k : Nat) (h : k < n) : atI a k ++ atI b k ∈ (List.range n).map (fun i => atI a i ++ atI b i) := List.mem_map.2 ⟨k, List.mem_range.2 h, rfl⟩
theorem bound_long {l : List (List UInt8)} {s : List UInt8} (hs : s ∈ l) (h : 2000 < s.length) : boundL l = none := by
  unfold boundL
  have : bigL l = true := by
    unfold bigL
    rw [Bool.or_eq_true]
    exact .inr (List.any_eq_true.2 ⟨s, hs, (longT_iff s).2 h⟩)
  rw [this]
  rfl
set_option maxRecDepth 100000 in
set_option maxHeartbeats 4000000 in
theorem rtwo_any (Aa : Option Addr) (na ca : Nat) (Ab : Option Addr) (nb cb : Nat) (l0 l1 : List (List UInt8)) (w : World) (hA : SlS w (.slice Aa na ca) l0) (hB : SlS w (.slice Ab nb cb) l1) (ha : Sml l0) (hb : Sml l1) :
    Calls Tryz.prog 34 #[.slice Aa na ca, .slice Ab nb cb] w (GoodRet (twoL l0 l1) w) := by
  obtain ⟨i0, hi, hz0, hz1, hz2⟩ := info_parts infoStr
  have HR := Lib.hid (show twoL l0 l1 = if 100 < lenT (someL l0).length (someL l1).length then none else boundL (pairsL (someL l0) (someL l1)) from rfl)
  have hpa := someL_pos l0
  have hpb := someL_pos l1
  have hla : (someL l0).length ≤ 1000000 := someL_le l0 ha.1
  have hlb : (someL l1).length ≤ 1000000 := someL_le l1 hb.1
  have HSA := Lib.hid (someL_small ha.2)
  have HSB := Lib.hid (someL_small hb.2)
  have HV0 := Lib.hid hA
  have HV1 := Lib.hid hB
  have hn0 : na = l0.length := by obtain ⟨A, c, he, _⟩ := hA; injection he
  have hn1 : nb = l1.length := by obtain ⟨A, c, he, _⟩ := hB; injection he
  have H0 := Lib.hid (show (na = 0 → someL l0 = [[]]) ∧ (¬ na = 0 → someL l0 = l0) from ⟨fun h => by unfold someL; rw [if_pos (by omega)], fun h => by unfold someL; rw [if_neg (by omega)]⟩)
  have H1 := Lib.hid (show (nb = 0 → someL l1 = [[]]) ∧ (¬ nb = 0 → someL l1 = l1) from ⟨fun h => by unfold someL; rw [if_pos (by omega)], fun h => by unfold someL; rw [if_neg (by omega)]⟩)
  clear hA hB ha hb hn0 hn1
  generalize twoL l0 l1 = R at *
  generalize someL l0 = xa at *
  generalize someL l1 = xb at *
  obtain ⟨ma, hma⟩ : ∃ m, m = xa.length := ⟨_, rfl⟩
  obtain ⟨mb, hmb⟩ : ∃ m, m = xb.length := ⟨_, rfl⟩
  have HMA := Lib.hid hma
  have HMB := Lib.hid hmb
  rw [← hma] at hpa hla HR
  rw [← hmb] at hpb hlb HR
  have hbw := Below.refl w.heap.size w
  clear hma hmb
  go_enter Tryz.func34, Tryz.ntmps34
  go_upto_if 13 with (fail)
  go_cut [0] from 14 to 14 (fun v wx => SlS wx v xa ∧ Below w.heap.size w wx)
  case first =>
    by_cases h0 : na = 0
    · have HE := Lib.hid (show xa = [[]] from H0.out.1 h0)
      subst h0
      go_wp2_with fail
      go_meet
      rw [HE.out]
      exact ⟨SlS.one _ [], hbw.alloc hbw.size _⟩
    · have HE := Lib.hid (show xa = l0 from H0.out.2 h0)
      have hq0 : ((na : Int) == 0) = false := by rw [beq_eq_false_iff_ne]; omega
      go_wp2_with fail
      go_meet
      rw [HE.out]
      exact ⟨HV0.out.below hbw, hbw⟩
  case rest =>
  clear hbw
  obtain ⟨hs0, hbw⟩ := hcut
  obtain ⟨A1, c1, rfl, hr1, hz1', hc1, hm1⟩ := hs0
  rw [← HMA.out] at hc1 ⊢
  go_upto_if 17 with (fail)
  go_cut [1] from 18 to 18 (fun v wx => SlS wx v xb ∧ Below w.heap.size w wx ∧ RdL wx 1 strc A1 xa)
  case first =>
    by_cases h0 : nb = 0
    · have HE := Lib.hid (show xb = [[]] from H1.out.1 h0)
      subst h0
      go_wp2_with fail
      go_meet
      rw [HE.out]
      exact ⟨SlS.one _ [], hbw.alloc hbw.size _, hr1.alloc _⟩
    · have HE := Lib.hid (show xb = l1 from H1.out.2 h0)
      have hq0 : ((nb : Int) == 0) = false := by rw [beq_eq_false_iff_ne]; omega
      go_wp2_with fail
      go_meet
      rw [HE.out]
      exact ⟨HV1.out.below hbw, hbw, hr1⟩
  case rest =>
  clear hbw hr1
  obtain ⟨hs1, hbw, hr1⟩ := hcut
  obtain ⟨A2, c2, rfl, hr2, hz2', hc2, hm2⟩ := hs1
  rw [← HMB.out] at hc2 ⊢
  clear hz1' hz2' H0 H1 HV0 HV1
  generalize wc = w2 at *
  go_upto_region 6 with (fail)
  go_cut [31] from 24 to 31 (fun v wx => v = .bool (decide (ma = 1 ∨ mb = 1)) ∧ w2 = wx)
  case first =>
    by_cases h1 : ma = 1
    · have q1 : ((ma : Int) == 1) = true := by rw [beq_iff_eq]; omega
      have HQ := Lib.hid (show decide (ma = 1 ∨ mb = 1) = true from decide_eq_true (.inl h1))
      clear h1
      go_wp2_with fail
      go_meet
      exact ⟨congrArg _ HQ.out.symm, rfl⟩
    · have q1 : ((ma : Int) == 1) = false := by rw [beq_eq_false_iff_ne]; omega
      have HQ := Lib.hid (show ((mb : Int) == 1) = decide (ma = 1 ∨ mb = 1) by rw [Bool.eq_iff_iff, beq_iff_eq, decide_eq_true_eq]; omega)
      clear h1
      go_wp2_with fail
      go_meet
      exact ⟨congrArg _ HQ.out, rfl⟩
  case rest =>
  obtain ⟨rfl, rfl⟩ := hcut
  have HQ1 := Lib.hid (show decide (ma = 1 ∨ mb = 1) = true → (max ma mb : Int) = (lenT ma mb : Nat) from fun h => by unfold lenT; rw [if_pos (of_decide_eq_true h)]; omega)
  have HQ2 := Lib.hid (show decide (ma = 1 ∨ mb = 1) = false → (min ma mb : Int) = (lenT ma mb : Nat) from fun h => by unfold lenT; rw [if_neg (of_decide_eq_false h)]; omega)
  generalize decide (ma = 1 ∨ mb = 1) = q at *
  go_upto_if 31 with (fail)
  go_cut [6] from 32 to 36 (fun v wx => v = .int .i64 (lenT ma mb) ∧ w2 = wx)
  case first =>
    cases q
    · go_wp2_with fail
      go_meet
      exact ⟨congrArg _ (HQ2.out (by first | trivial | rfl)), rfl⟩
    · go_wp2_with fail
      go_meet
      exact ⟨congrArg _ (HQ1.out (by first | trivial | rfl)), rfl⟩
  case rest =>
  obtain ⟨rfl, rfl⟩ := hcut
  clear HQ1 HQ2
  have hpn := lenT_pos hpa hpb
  have HX := Lib.hid (show ∀ i, i < lenT ma mb → (¬ ma = 1 → i < ma) ∧ (¬ mb = 1 → i < mb) from fun i hi => by
    unfold lenT at hi
    split at hi <;> constructor <;> intro h <;> omega)
  have HP := Lib.hid (show pairsL xa xb = (List.range (lenT ma mb)).map (fun i => atI xa i ++ atI xb i) by unfold pairsL; rw [← HMA.out, ← HMB.out])
  generalize lenT ma mb = n at *
  go_upto_region 10 with (fail)
  go_loopw [7, 8] (fun v i wr => ∃ k : Nat, k ≤ n ∧ k ≤ 101 ∧ i = .int .i64 k ∧ wr.ownsRow w2.heap.size 9 1 v k (((List.range k).map fun i => atI xa i ++ atI xb i).flatMap strc) ∧ Below w2.heap.size w2 wr ∧ Hid (∀ s ∈ (List.range k).map (fun i => atI xa i ++ atI xb i), s.length ≤ 4000))
    (fun _ i _ => n - (intOf i).toNat)
  case atStart => exact ⟨0, Nat.zero_le _, by omega, rfl, World.ownsRow_nil _ _ _ _, Below.refl _ _, Lib.hid (fun s hs => by simp at hs)⟩
  case round =>
    obtain ⟨k, hk, hk1, rfl, hown, hbx, HSM⟩ := hrel
    by_cases hgo : k < n ∧ k ≤ 100
    · obtain ⟨hlt, hle⟩ := hgo
      obtain ⟨g1, g2⟩ := HX.out k hlt
      have hr1' := hr1.below hbx
      have hr2' := hr2.below hbx
      have p1 : 0 < xa.length := by rw [← HMA.out]; exact hpa
      have p2 : 0 < xb.length := by rw [← HMB.out]; exact hpb
      obtain ⟨b1, o1, rfl⟩ := hr1.ats p1
      obtain ⟨b2, o2, rfl⟩ := hr2.ats p2
      have z1 := hr1'.strs p1
      have z2 := hr2'.strs p2
      rw [Nat.add_zero] at z1 z2
      have HS := Lib.hid (pairs_snoc xa xb k)
      have HMEM := Lib.hid (show atI xa k ++ atI xb k ∈ pairsL xa xb by rw [HP.out]; exact pairs_get xa xb n k hlt)
      have HC1 := Lib.hid (show (ma = 1 → xa[0] = atI xa k) ∧ (∀ h : ¬ ma = 1, wr.cell? ⟨b1, o1 + k, none⟩ = some (.string ⟨(atI xa k).toArray⟩)) from ⟨fun h => (at_one k (by rw [← HMA.out]; exact h)).symm, fun h => by
        have hkl : k < xa.length := by rw [← HMA.out]; exact g1 h
        rw [at_in hkl]
        exact hr1'.strs hkl⟩)
      have HC2 := Lib.hid (show (mb = 1 → xb[0] = atI xb k) ∧ (∀ h : ¬ mb = 1, wr.cell? ⟨b2, o2 + k, none⟩ = some (.string ⟨(atI xb k).toArray⟩)) from ⟨fun h => (at_one k (by rw [← HMB.out]; exact h)).symm, fun h => by
        have hkl : k < xb.length := by rw [← HMB.out]; exact g2 h
        rw [at_in hkl]
        exact hr2'.strs hkl⟩)
      have hs1 : (atI xa k).length ≤ 1000000 := HSA.out _ (by
        rw [atI_get (show min k (xa.length - 1) < xa.length by omega)]
        exact List.getElem_mem _)
      have hs2 : (atI xb k).length ≤ 1000000 := HSB.out _ (by
        rw [atI_get (show min k (xb.length - 1) < xb.length by omega)]
        exact List.getElem_mem _)
      generalize xa[0] = y1 at *
      generalize xb[0] = y2 at *
      clear hr1' hr2' p1 p2
      generalize atI xa k = s1 at *
      generalize atI xb k = s2 at *
      generalize hacc : (List.range k).map (fun i => atI xa i ++ atI xb i) = acc at *
      clear hacc
      have HD := Lib.hid (show (decide ((1 : Int) < (ma : Int)) = false → ma = 1) ∧ (decide ((1 : Int) < (ma : Int)) = true → ¬ ma = 1) from ⟨fun h => by have := of_decide_eq_false h; omega, fun h => by have := of_decide_eq_true h; omega⟩)
      go_upto_if 51 with (fail)
      generalize decide ((1 : Int) < (ma : Int)) = qa at *
      go_cut [9] from 37 to 55 (fun v wx => v = .string ⟨s1.toArray⟩ ∧ wr = wx)
      case first =>
        cases qa with
        | false =>
          have HY := Lib.hid (HC1.out.1 (HD.out.1 rfl))
          go_wp2_with fail
          go_meet
          exact ⟨congrArg (fun s : List UInt8 => Value.string ⟨s.toArray⟩) HY.out, rfl⟩
        | true =>
          have cz := HC1.out.2 (HD.out.2 rfl)
          have q2 := g1 (HD.out.2 rfl)
          go_wp2_with fail
          go_meet
          exact ⟨rfl, rfl⟩
      case rest =>
      obtain ⟨rfl, rfl⟩ := hcut
      have HD := Lib.hid (show (decide ((1 : Int) < (mb : Int)) = false → mb = 1) ∧ (decide ((1 : Int) < (mb : Int)) = true → ¬ mb = 1) from ⟨fun h => by have := of_decide_eq_false h; omega, fun h => by have := of_decide_eq_true h; omega⟩)
      go_upto_if 61 with (fail)
      generalize decide ((1 : Int) < (mb : Int)) = qb at *
      go_cut [10] from 37 to 65 (fun v wx => v = .string ⟨s2.toArray⟩ ∧ wr = wx)
      case first =>
        cases qb with
        | false =>
          have HY := Lib.hid (HC2.out.1 (HD.out.1 rfl))
          go_wp2_with fail
          go_meet
          exact ⟨congrArg (fun s : List UInt8 => Value.string ⟨s.toArray⟩) HY.out, rfl⟩
        | true =>
          have cz := HC2.out.2 (HD.out.2 rfl)
          have q2 := g2 (HD.out.2 rfl)
          go_wp2_with fail
          go_meet
          exact ⟨rfl, rfl⟩
      case rest =>
      obtain ⟨rfl, rfl⟩ := hcut
      clear HC1 HC2 g1 g2 z1 z2
      have hbq := hbw.trans (hbx.mono hbw.size)
      have HLN := Lib.hid (show (s1 ++ s2).length = s1.length + s2.length by simp)
      have HN0 := Lib.hid (show 2000 < s1.length + s2.length → R = none from fun h => by
        rw [HR.out]
        split
        · rfl
        · exact bound_long HMEM.out (by rw [HLN.out]; exact h))
      by_cases hb1 : 2000 < s1.length
      · have HN := Lib.hid (HN0.out (by omega))
        go_wp2_with fail
        go_ret2
        obtain rfl := HN.out
        exact ⟨none, 0, 0, rfl, SlS.nil _, hbq⟩
      by_cases hb2 : 2000 < s2.length
      · have HN := Lib.hid (HN0.out (by omega))
        go_wp2_with fail
        go_ret2
        obtain rfl := HN.out
        exact ⟨none, 0, 0, rfl, SlS.nil _, hbq⟩
      have HSM2 := Lib.hid (show ∀ s ∈ (List.range (k + 1)).map (fun i => atI xa i ++ atI xb i), s.length ≤ 4000 from fun s hs => by
        rw [HS.out, List.mem_append, List.mem_singleton] at hs
        rcases hs with hs | rfl
        · exact HSM.out s hs
        · rw [HLN.out]; omega)
      have HBA := Lib.hid (ba_app s1 s2)
      clear HSM HN0 HMEM
      go_wp2_with (at_builtin; refine wpList_push rfl _ _ _ rfl Tryz.underlying23 hi hz0 hz1 hz2 rfl (by decide) hown rfl rfl rfl (by simp [Value.oneCell']) (by omega) (by decide) hbx.size ?_; intro A9 c9 w9 ho9 hb9 hoo9)
      have HO := Lib.hid (show w9.ownsRow w2.heap.size 9 1 (.slice A9 (k + 1) c9) (k + 1) (((List.range (k + 1)).map fun i => atI xa i ++ atI xb i).flatMap strc) by
        rw [HS.out, List.flatMap_append]
        have h9 := ho9
        rw [HBA.out] at h9
        exact h9)
      have hbz := hbx.trans hb9
      clear ho9 hoo9 hb9 hown
      go_roundw
      case rel => exact ⟨k + 1, by omega, by omega, by go_num, HO.out, hbz, HSM2⟩
      case measure => simp [intOf]; omega
    · have hend : k = n ∨ (k = 101 ∧ 101 ≤ n) := by omega
      have HO := Lib.hid (show OwnS wr w2.heap.size u7 ((List.range k).map fun i => atI xa i ++ atI xb i) by unfold OwnS; rw [List.length_map, List.length_range]; exact hown)
      obtain ⟨A, c, rfl, _⟩ := HO.out.rd
      rw [List.length_map, List.length_range] at HO ⊢
      have CB := Lib.hid (rbound_any A k c _ wr HO.out.rd (by rw [List.length_map, List.length_range]; omega) (fun s hs => by have := HSM.out s hs; omega))
      have HF := Lib.hid (show R = boundL ((List.range k).map fun i => atI xa i ++ atI xb i) by
        rw [HR.out]
        rcases hend with rfl | ⟨rfl, h⟩
        · split
          · rename_i h1
            rw [boundL, bigL, List.length_map, List.length_range, decide_eq_true h1]
            rfl
          · rw [HP.out]
        · rw [if_pos (by omega), boundL, bigL, List.length_map, List.length_range]
          rfl)
      rw [← HF.out] at CB
      have hbq := hbw.trans (hbx.mono hbw.size)
      have hcond : ¬ k < n ∨ ¬ k ≤ 100 := by omega
      clear hown HO HSM HF hgo
      rcases hcond with hc | hc
      · go_wp2_with fail
        refine CB.out.mono ?_
        rintro e w3 ⟨A3, n3, c3, rfl, hs3, hb3⟩
        go_wp2_with fail
        go_ret2
        exact ⟨A3, n3, c3, rfl, hs3, hbq.trans (hb3.mono hbq.size)⟩
      · have hc2 : ¬ (k : Int) ≤ 100 := by omega
        by_cases hc3 : k < n
        · go_wp2_with fail
          refine CB.out.mono ?_
          rintro e w3 ⟨A3, n3, c3, rfl, hs3, hb3⟩
          go_wp2_with fail
          go_ret2
          exact ⟨A3, n3, c3, rfl, hs3, hbq.trans (hb3.mono hbq.size)⟩
        · go_wp2_with fail
          refine CB.out.mono ?_
          rintro e w3 ⟨A3, n3, c3, rfl, hs3, hb3⟩
          go_wp2_with fail
          go_ret2
          exact ⟨A3, n3, c3, rfl, hs3, hbq.trans (hb3.mono hbq.size)⟩
theorem two_sml {a b : List (List UInt8)} : Sml ((twoL a b).getD []) := by
  cases h : twoL a b with
  | none => exact ⟨by decide, fun s hs => by cases hs⟩
  | some r => exact Sml.of_big (two_some h).2
set_option maxRecDepth 100000 in
set_option maxHeartbeats 4000000 in
theorem rjoin_any (A0 : Option Addr) (c0 : Nat) (ls : List (List (List UInt8))) (w : World) (hK : KdS w A0 ls) (hn : ls.length ≤ 1000000) (hl : ∀ x ∈ ls, Sml x) :
    Calls Tryz.prog 9 #[.slice A0 ls.length c0] w (GoodRet (joinL ls) w) := by
  obtain ⟨R, hR⟩ : ∃ R, R = joinL ls := ⟨_, rfl⟩
  rw [← hR]
  have HR := Lib.hid hR
  clear hR
  obtain ⟨n, hn0⟩ : ∃ n, n = ls.length := ⟨_, rfl⟩
  rw [← hn0] at hn ⊢
  have HN := Lib.hid hn0
  have HL := Lib.hid hl
  clear hn0 hl
  by_cases h0 : n = 0
  · have h00 : ls = [] := List.eq_nil_of_length_eq_zero (by rw [← HN.out]; exact h0)
    have HR2 := Lib.hid (show R = some [[]] by rw [HR.out, h00]; rfl)
    subst h0
    clear HR h00
    go_enter Tryz.func9, Tryz.ntmps9
    go_wp2_with fail
    go_ret2
    obtain rfl := HR2.out
    exact ⟨_, _, _, rfl, SlS.one w [], below1 w _⟩
  have hq0 : ((n : Int) == 0) = false := by rw [beq_eq_false_iff_ne]; omega
  have hpos : 0 < ls.length := by rw [← HN.out]; omega
  obtain ⟨b, o, rfl⟩ := hK.addr hpos
  obtain ⟨v0, cv0, hs0⟩ := hK.at_ hpos
  rw [Nat.add_zero] at cv0
  have hL0 := HL.out _ (List.getElem_mem hpos)
  have HR2 := Lib.hid (show R = joinGo (ls.drop 1) (someL ls[0]) by rw [HR.out, joinL_cons hpos])
  generalize ls[0] = x0 at *
  have TC := Lib.hid (texts_any v0 x0 w hs0 hL0.1)
  have HX0 := Lib.hid hL0.some
  have HSX := Lib.hid (show (x0.length = 0 → someL x0 = [[]]) ∧ (¬ x0.length = 0 → someL x0 = x0) from ⟨fun h => by unfold someL; rw [if_pos h], fun h => by unfold someL; rw [if_neg h]⟩)
  generalize someL x0 = y0 at *
  have hn1 : 1 ≤ n := by omega
  clear hL0 HR hpos h0
  obtain ⟨A00, c00, rfl, _⟩ := hs0
  go_enter Tryz.func9, Tryz.ntmps9
  go_wp2_with fail
  refine TC.out.mono ?_
  rintro e w1 ⟨v1, rfl, ho1, hb1⟩
  obtain ⟨A1, c1, rfl, _⟩ := ho1.rd
  have HS1 := Lib.hid ho1.rd
  clear TC ho1
  generalize x0.length = m0 at *
  go_upto_if 18 with (fail)
  go_cut [4] from 19 to 19 (fun v wx => SlS wx v y0 ∧ Below w.heap.size w wx)
  case first =>
    by_cases h0 : m0 = 0
    · have HE := Lib.hid (show y0 = [[]] from HSX.out.1 h0)
      subst h0
      go_wp2_with fail
      go_meet
      rw [HE.out]
      exact ⟨SlS.one _ [], hb1.alloc hb1.size _⟩
    · have HE := Lib.hid (show y0 = x0 from HSX.out.2 h0)
      have hq1 : ((m0 : Int) == 0) = false := by rw [beq_eq_false_iff_ne]; omega
      go_wp2_with fail
      go_meet
      rw [HE.out]
      exact ⟨HS1.out, hb1⟩
  case rest =>
  clear hb1 HS1
  obtain ⟨hs1, hbw⟩ := hcut
  generalize wc = w2 at *
  obtain ⟨A2, c2, hv2, _⟩ := id hs1
  subst hv2
  have hK2 := hK.below hbw
  have HS2 := Lib.hid hs1
  have HB2 := Lib.hid hbw
  clear hs1 hbw hK cv0
  go_upto_region 8 with (fail)
  go_loopw [5, 6, 7] (fun v q i wr => ∃ k : Nat, 1 ≤ k ∧ k ≤ n ∧ i = .int .i64 k ∧ Below w2.heap.size w2 wr ∧ ((q = .bool true ∧ ∃ A c acc, v = .slice A acc.length c ∧ Hid (SlS wr (.slice A acc.length c) acc) ∧ Hid (Sml acc) ∧ Hid (R = joinGo (ls.drop k) acc)) ∨ (q = .bool false ∧ (∃ A m c, v = .slice A m c) ∧ Hid (R = none))))
    (fun _ _ i _ => n - (intOf i).toNat)
  case atStart => exact ⟨1, by omega, hn1, rfl, Below.refl _ _, .inl ⟨rfl, A2, c2, y0, rfl, HS2, HX0, HR2⟩⟩
  case round =>
    obtain ⟨k, hk1, hk, rfl, hbx, hst⟩ := hrel
    have HBQ := Lib.hid (HB2.out.trans (hbx.mono HB2.out.size))
    rcases hst with ⟨rfl, A, c, acc, rfl, HSA, HSM, H⟩ | ⟨rfl, ⟨A, m, c, rfl⟩, HN0⟩
    · by_cases hlt : k < n
      · have hkL : k < ls.length := by rw [← HN.out]; exact hlt
        obtain ⟨v, cv, hsv⟩ := (hK2.below hbx).at_ hkL
        have HXS := Lib.hid (HL.out _ (List.getElem_mem hkL))
        have HD := Lib.hid (joinGo_at hkL acc)
        generalize ls[k] = x at *
        obtain ⟨AX, cX, rfl, _⟩ := id hsv
        have CT := Lib.hid (rtwo_any A acc.length c AX x.length cX acc x wr HSA.out hsv HSM.out HXS.out)
        have HG := Lib.hid (show R = match twoL acc x with | none => none | some r => joinGo (ls.drop (k + 1)) r by rw [H.out, HD.out]; rfl)
        have HSM2 := Lib.hid (two_sml (a := acc) (b := x))
        generalize acc.length = na at *
        generalize x.length = nx at *
        clear H HD hsv hkL HSA HSM
        generalize twoL acc x = T at *
        go_wp2_with fail
        refine CT.out.mono ?_
        rintro e w3 ⟨A3, n3, c3, rfl, hs3, hb3⟩
        have hlen : n3 = (T.getD []).length := by obtain ⟨A', c', he, _⟩ := hs3; injection he
        subst hlen
        have HS3 := Lib.hid hs3
        have hbx2 := hbx.trans (hb3.mono hbx.size)
        clear hs3 hb3 CT hbx
        cases T with
        | none =>
          have HN0 := Lib.hid (show R = none from HG.out)
          go_wp2_with fail
          go_roundw
          case rel => exact ⟨k + 1, by omega, by omega, by go_num, hbx2, .inr ⟨rfl, ⟨_, _, _, rfl⟩, HN0⟩⟩
          case measure => simp [intOf]; omega
        | some t =>
          have HN0 := Lib.hid (show R = joinGo (ls.drop (k + 1)) t from HG.out)
          go_wp2_with fail
          go_roundw
          case rel => exact ⟨k + 1, by omega, by omega, by go_num, hbx2, .inl ⟨rfl, A3, c3, t, rfl, HS3, HSM2, HN0⟩⟩
          case measure => simp [intOf]; omega
      · obtain rfl : n = k := by omega
        have HF := Lib.hid (show R = boundL acc by rw [H.out, HN.out, List.drop_length, joinGo])
        have CB := Lib.hid (rbound_any A acc.length c acc wr HSA.out HSM.out.1 (fun s hs => by have := HSM.out.2 s hs; omega))
        rw [← HF.out] at CB
        generalize acc.length = na at *
        clear H HF HSA HSM
        go_wp2_with fail
        refine CB.out.mono ?_
        rintro e w3 ⟨A3, n3, c3, rfl, hs3, hb3⟩
        go_wp2_with fail
        go_ret2
        exact ⟨A3, n3, c3, rfl, hs3, HBQ.out.trans (hb3.mono HBQ.out.size)⟩
    · by_cases hlt : k < n
      · go_wp2_with fail
        go_ret2
        obtain rfl := HN0.out
        exact ⟨none, 0, 0, rfl, SlS.nil _, HBQ.out⟩
      · go_wp2_with fail
        go_ret2
        obtain rfl := HN0.out
        exact ⟨none, 0, 0, rfl, SlS.nil _, HBQ.out⟩
end Go.Proofs.YtlhpflilpdceiaaGreatDoor
