/- The walks over package text's functions that read a source: Slice, Name, New. Bounds on the lengths. -/
import Derived.Test.YtlhpflilpdceiaaDoorScanW1
import Derived.Test.YtlhpflilpdceiaaDoorRelT
import Derived.Deep.Cut
import Derived.Outline
set_option linter.unusedVariables false
set_option linter.unusedSimpArgs false
namespace Go.Proofs.YtlhpflilpdceiaaDoor
open Go.RowKit

theorem ex_cut (s : ByteArray) (i j : Nat) : s.extract (min i s.size) (min j s.size) = ⟨(cutL s.data.toList i j).toArray⟩ := by
  obtain ⟨⟨l⟩⟩ := s
  rw [ByteArray.extract_mk]
  show (⟨((l.drop (min i l.length)).take (min j l.length - min i l.length)).toArray⟩ : ByteArray) = ⟨((l.drop i).take (j - i)).toArray⟩
  congr 2
  by_cases hi : l.length ≤ i
  · rw [List.drop_eq_nil_of_le (Nat.le_min.2 ⟨hi, Nat.le_refl _⟩), List.drop_eq_nil_of_le hi]
    simp
  · rw [Nat.min_eq_left (show i ≤ l.length by omega), List.take_eq_take_iff, List.length_drop]
    omega
theorem cutL_nil {L : List UInt8} {i j : Nat} (h : min j L.length ≤ min i L.length) : cutL L i j = [] := by
  unfold cutL
  by_cases hi : L.length ≤ i
  · rw [List.drop_eq_nil_of_le hi]; simp
  · rw [show j - i = 0 by omega, List.take_zero]
set_option maxHeartbeats 1000000 in
theorem bslice_any (s : ByteArray) (i j : Nat) (w : World) : Calls Tryd.prog 48 #[.agg #[.string s], .int .i64 i, .int .i64 j] w (Ret w (.string ⟨(cutL s.data.toList i j).toArray⟩)) := by
  have b0 := (Below.refl w.heap.size w).alloc (Nat.le_refl _) (.cells #[.string s] 111)
  have c0 : (w.alloc (.cells #[.string s] 111)).cell? ⟨w.heap.size, 0, none⟩ = some (.string s) := (Blk.new w _ _).cell 0
  have l0 := Later.cell c0
  have HX := Lib.hid (ex_cut s i j)
  have HN := Lib.hid (fun h => cutL_nil (L := s.data.toList) (i := i) (j := j) h)
  have e1 : min (i : Int) (s.size : Int) = ((min i s.size : Nat) : Int) := by omega
  have e2 : min (j : Int) (s.size : Int) = ((min j s.size : Nat) : Int) := by omega
  have hle1 : min i s.size ≤ s.size := Nat.min_le_right ..
  have hle2 : min j s.size ≤ s.size := Nat.min_le_right ..
  have HI := Lib.hid e1
  have HJ := Lib.hid e2
  clear e1 e2
  generalize cutL s.data.toList i j = R at *
  go_enter Tryd.func48, Tryd.ntmps48
  go_upto_region 1 with (fail)
  refine wp_region_eq (by kernel_rfl) (by kernel_rfl) ?_
  apply EqGo.run
  focus
    kernel_rfl
  focus
    intro x K hK
    go_wp2_with fail
    first | exact hK x (Below.refl _ _) | exact Below.refl _ _
  simp only [Act.put, List.setIfInBounds_toArray, List.set_cons_succ, List.set_cons_zero]
  apply EqGo.run
  focus
    kernel_rfl
  focus
    intro x K hK
    go_wp2_with fail
    first | exact hK x (Below.refl _ _) | exact Below.refl _ _
  simp only [Act.put, List.setIfInBounds_toArray, List.set_cons_succ, List.set_cons_zero]
  apply EqGo.run
  focus
    kernel_rfl
  focus
    intro x K hK
    go_wp2_with fail
    first | exact hK x (Below.refl _ _) | exact Below.refl _ _
  simp only [Act.put, List.setIfInBounds_toArray, List.set_cons_succ, List.set_cons_zero]
  apply EqGo.run
  focus
    kernel_rfl
  focus
    intro x K hK
    go_wp2_with fail
    first | exact hK x (Below.refl _ _) | exact Below.refl _ _
  simp only [Act.put, List.setIfInBounds_toArray, List.set_cons_succ, List.set_cons_zero]
  apply EqGo.run
  focus
    kernel_rfl
  focus
    intro x K hK
    go_wp2_with fail
    first | exact hK x (Below.refl _ _) | exact Below.refl _ _
  simp only [Act.put, List.setIfInBounds_toArray, List.set_cons_succ, List.set_cons_zero]
  apply EqGo.run
  focus
    kernel_rfl
  focus
    intro x K hK
    go_wp2_with fail
    first | exact hK x (Below.refl _ _) | exact Below.refl _ _
  simp only [Act.put, List.setIfInBounds_toArray, List.set_cons_succ, List.set_cons_zero]
  apply EqGo.run
  focus
    kernel_rfl
  focus
    intro x K hK
    go_wp2_with fail
    first | exact hK x (Below.refl _ _) | exact Below.refl _ _
  simp only [Act.put, List.setIfInBounds_toArray, List.set_cons_succ, List.set_cons_zero]
  apply EqGo.run
  focus
    kernel_rfl
  focus
    intro x K hK
    go_wp2_with fail
    first | exact hK x (Below.refl _ _) | exact Below.refl _ _
  simp only [Act.put, List.setIfInBounds_toArray, List.set_cons_succ, List.set_cons_zero]
  apply EqGo.run
  focus
    kernel_rfl
  focus
    intro x K hK
    go_wp2_with fail
    first | exact hK x (Below.refl _ _) | exact Below.refl _ _
  simp only [Act.put, List.setIfInBounds_toArray, List.set_cons_succ, List.set_cons_zero]
  apply EqGo.run
  focus
    kernel_rfl
  focus
    intro x K hK
    go_wp2_with fail
    first | exact hK x (Below.refl _ _) | exact Below.refl _ _
  simp only [Act.put, List.setIfInBounds_toArray, List.set_cons_succ, List.set_cons_zero]
  apply EqGo.run
  focus
    kernel_rfl
  focus
    intro x K hK
    go_wp2_with fail
    first | exact hK x (Below.refl _ _) | exact Below.refl _ _
  simp only [Act.put, List.setIfInBounds_toArray, List.set_cons_succ, List.set_cons_zero]
  apply EqGo.run
  focus
    kernel_rfl
  focus
    intro x K hK
    go_wp2_with fail
    first | exact hK x (Below.refl _ _) | exact Below.refl _ _
  simp only [Act.put, List.setIfInBounds_toArray, List.set_cons_succ, List.set_cons_zero]
  apply EqGo.run
  focus
    kernel_rfl
  focus
    intro x K hK
    go_wp2_with fail
    first | exact hK x (Below.refl _ _) | exact Below.refl _ _
  simp only [Act.put, List.setIfInBounds_toArray, List.set_cons_succ, List.set_cons_zero]
  apply EqGo.run
  focus
    kernel_rfl
  focus
    intro x K hK
    go_wp2_with fail
    first | exact hK x (Below.refl _ _) | exact Below.refl _ _
  simp only [Act.put, List.setIfInBounds_toArray, List.set_cons_succ, List.set_cons_zero]
  intro x
  rw [HI.out, HJ.out]
  rw [ba_len] at HN
  have q0 := l0 x
  have hb := b0.trans (x.below.mono b0.size)
  clear HI HJ b0 c0 l0
  generalize min i s.size = a at *
  generalize min j s.size = b at *
  generalize x.val = wx at *
  clear x
  by_cases hab : b ≤ a
  · go_wp2_with fail
    go_ret
    rw [HN.out hab]
    exact ⟨rfl, hb⟩
  · go_wp2_with fail
    go_ret
    refine ⟨?_, hb⟩
    rw [← HX.out]
    first | rfl | simp
/- names -/
theorem run_tw (L : List UInt8) {i : Nat} (h : i < L.length) (hb : nameB L[i] = true) : runL (L.drop i) = (L.drop i).takeWhile nameG := by
  rw [List.drop_eq_getElem_cons h, runL, if_pos hb, List.takeWhile_cons, if_pos (by unfold nameG; rw [hb]; rfl)]
theorem run_no (L : List UInt8) {i : Nat} (h : i < L.length) (hb : nameB L[i] = false) : runL (L.drop i) = [] := by
  rw [List.drop_eq_getElem_cons h, runL, if_neg (by rw [hb]; decide)]
theorem cut_self (L : List UInt8) (i : Nat) : cutL L i i = [] := by unfold cutL; rw [Nat.sub_self, List.take_zero]
theorem cut_succ (L : List UInt8) {i k : Nat} (hik : i ≤ k) (h : k < L.length) : cutL L i (k + 1) = cutL L i k ++ [L[k]] := by
  unfold cutL
  rw [show k + 1 - i = (k - i) + 1 by omega, List.take_succ_eq_append_getElem (by rw [List.length_drop]; omega), List.getElem_drop]
  congr 2
  congr 1
  omega
theorem tw_on (L : List UInt8) {i k : Nat} (hik : i ≤ k) (h : k < L.length) (hg : nameG L[k] = true) : cutL L i k ++ (L.drop k).takeWhile nameG = cutL L i (k + 1) ++ (L.drop (k + 1)).takeWhile nameG := by
  rw [List.drop_eq_getElem_cons h, List.takeWhile_cons, if_pos hg, cut_succ L hik h]
  simp
theorem tw_stop (L : List UInt8) {i k : Nat} (h : ∀ hk : k < L.length, nameG L[k] = false) : cutL L i k ++ (L.drop k).takeWhile nameG = cutL L i k := by
  by_cases hk : k < L.length
  · rw [List.drop_eq_getElem_cons hk, List.takeWhile_cons, if_neg (by rw [h hk]; decide), List.append_nil]
  · rw [List.drop_eq_nil_of_le (by omega)]
    simp
set_option maxRecDepth 100000 in
set_option maxHeartbeats 2000000 in
theorem sname_any (s : ByteArray) (i S : Nat) (w : World) (hS : Blk w S 113 #[.string s]) (hs : s.size ≤ 1000000) (hi : i ≤ 1000000) : Calls Tryd.prog 95 #[.pointer (some ⟨S, 0, none⟩), .int .i64 i] w (Ret w (.string ⟨(runL (s.data.toList.drop i)).toArray⟩)) := by
  have c0 : w.cell? ⟨S, 0, none⟩ = some (.string s) := hS.cell 0
  have HB := Lib.hid (fun k W => byte_any s k W)
  have HG := Lib.hid (fun c W => goesOn_any c W)
  have HSL := Lib.hid (fun k W => bslice_any s i k W)
  obtain ⟨L, hL⟩ : ∃ L, L = s.data.toList := ⟨_, rfl⟩
  have hn : L.length = s.size := by rw [hL]; rfl
  rw [← hL] at HB HSL ⊢
  by_cases h : i < s.size
  · have h' : i < L.length := by omega
    have hv := byteV_in h'
    have HV := Lib.hid hv
    have HC := Lib.hid (begins_any L[i])
    cases hb : nameB L[i] with
    | false =>
      rw [run_no L h' hb]
      rw [hb] at HC
      clear hv hb
      generalize L[i].toNat = c at *
      go_enter Tryd.func95, Tryd.ntmps95
      go_wp2_with fail
      refine (HB.out _ _).mono ?_
      rw [HV.out]
      rintro e w1 ⟨rfl, hb1⟩
      go_wp2_with fail
      refine (HC.out _).mono ?_
      rintro e w2 ⟨rfl, rfl⟩
      go_wp2_with fail
      go_ret
      exact ⟨rfl, hb1⟩
    | true =>
      have HR := Lib.hid (show runL (L.drop i) = cutL L i i ++ (L.drop i).takeWhile nameG by rw [cut_self, List.nil_append]; exact run_tw L h' hb)
      rw [hb] at HC
      generalize runL (L.drop i) = R at *
      have HCA := Lib.hid (cAt_in h')
      clear hv hb
      generalize L[i].toNat = c at *
      go_enter Tryd.func95, Tryd.ntmps95
      go_wp2_with fail
      refine (HB.out _ _).mono ?_
      rw [HV.out]
      rintro e w1 ⟨rfl, hb1⟩
      go_wp2_with fail
      refine (HC.out _).mono ?_
      rintro e w2 ⟨rfl, rfl⟩
      go_wp2_with fail
      have HL := Lib.hid hL
      clear hL
      go_loopw [5, 6, 7] (fun c b t wr => ∃ k : Nat, i ≤ k ∧ k ≤ s.size ∧ t = .int .i64 k ∧ c = .int .u8 (cAt L k) ∧ b = .bool (decide (k < s.size)) ∧ Below w.heap.size w wr ∧ Hid (R = cutL L i k ++ (L.drop k).takeWhile nameG)) (fun _ _ t _ => s.size - (intOf t).toNat)
      case atStart => exact ⟨i, Nat.le_refl _, by omega, rfl, by rw [HCA.out], by rw [decide_eq_true h], hb1, HR⟩
      case round =>
        obtain ⟨k, hik, hk, rfl, rfl, rfl, hbw, H⟩ := hrel
        have q0 := cell_keep hbw c0
        by_cases hlt : k < s.size
        · have hlt' : k < L.length := by omega
          have hca := cAt_in hlt'
          have HGK := Lib.hid (HG.out L[k])
          rw [decide_eq_true hlt]
          rw [hca]
          cases hg : nameG L[k] with
          | true =>
            have HR2 := Lib.hid (show R = cutL L i (k + 1) ++ (L.drop (k + 1)).takeWhile nameG by rw [H.out]; exact tw_on L hik hlt' hg)
            rw [hg] at HGK
            have HBK := Lib.hid (HB.out (k + 1))
            clear hca hg H
            generalize L[k].toNat = c at *
            go_wp2_with fail
            refine (HGK.out _).mono ?_
            rintro e w3 ⟨rfl, rfl⟩
            go_wp2_with fail
            refine (HBK.out _).mono ?_
            rw [show byteV L (k + 1) = .tuple #[.int .u8 (cAt L (k + 1)), .bool (decide (k + 1 < s.size))] by unfold byteV; rw [hn]]
            rintro e w4 ⟨rfl, hb4⟩
            generalize hdd : decide (k + 1 < s.size) = dd
            have HDD := Lib.hid hdd
            clear hdd
            generalize hcc : cAt L (k + 1) = cc
            have HCC := Lib.hid hcc
            clear hcc
            go_wp2_with fail
            go_roundw
            case rel => exact ⟨k + 1, by omega, by omega, by go_num, by rw [HCC.out], by rw [HDD.out], hbw.trans (hb4.mono hbw.size), HR2⟩
            case measure => simp [intOf]; omega
          | false =>
            have HR2 := Lib.hid (show R = cutL L i k by rw [H.out]; exact tw_stop L (fun _ => hg))
            rw [hg] at HGK
            have HSK := Lib.hid (HSL.out k)
            clear hca hg H
            generalize L[k].toNat = c at *
            go_wp2_with fail
            refine (HGK.out _).mono ?_
            rintro e w3 ⟨rfl, rfl⟩
            go_wp2_with fail
            refine (HSK.out _).mono ?_
            rintro e w4 ⟨rfl, hb4⟩
            go_wp2_with fail
            go_ret
            rw [HR2.out]
            exact ⟨rfl, hbw.trans (hb4.mono hbw.size)⟩
        · have HR2 := Lib.hid (show R = cutL L i k by rw [H.out]; exact tw_stop L (fun hk => absurd hk (by omega)))
          have HSK := Lib.hid (HSL.out k)
          rw [decide_eq_false hlt]
          clear H
          generalize cAt L k = c at *
          go_wp2_with fail
          refine (HSK.out _).mono ?_
          rintro e w4 ⟨rfl, hb4⟩
          go_wp2_with fail
          go_ret
          rw [HR2.out]
          exact ⟨rfl, hbw.trans (hb4.mono hbw.size)⟩
  · have h' : L.length ≤ i := by omega
    have HV := Lib.hid (byteV_out h')
    rw [show runL (L.drop i) = [] by rw [List.drop_eq_nil_of_le h']; rfl]
    go_enter Tryd.func95, Tryd.ntmps95
    go_wp2_with fail
    refine (HB.out _ _).mono ?_
    rw [HV.out]
    rintro e w1 ⟨rfl, hb1⟩
    go_wp2_with fail
    go_ret
    exact ⟨rfl, hb1⟩
theorem snew_any (s : ByteArray) (w : World) (hs : s.size ≤ 8192) : Calls Tryd.prog 28 #[.string s] w fun e w' => e = .returned (.tuple #[.pointer (some ⟨w.heap.size, 0, none⟩), .nilIface]) ∧ w' = w.alloc (.cells #[.string s] 113) := by
  go_enter Tryd.func28, Tryd.ntmps28
  go_wp2_with fail
  go_ret2
  exact ⟨rfl, rfl⟩
end Go.Proofs.YtlhpflilpdceiaaDoor
