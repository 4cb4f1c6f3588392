/- The walk over BuiltinReads: for every text the law returns true. The library's table and bound are hypotheses. -/
import Derived.Test.YtlhpflilpdceiaaDoorBuiltW5
set_option linter.unusedVariables false
set_option linter.unusedSimpArgs false
namespace Go.Proofs.YtlhpflilpdceiaaDoor
open Go.RowKit

theorem nameV : nameB [118] = true := by kernel_rfl
theorem read_nil : readA [] [[118]] (oc0 []) = ⟨[], [], 1, [], [], false⟩ := by
  simp only [readA]
  rw [nameV]
  rfl
theorem read_more {r : List UInt8} (h : r ≠ []) : readA r [[118]] (oc0 r) = ⟨[], (cutN r).2, 0, [118], (cutN r).1, false⟩ := by
  cases r with
  | nil => exact absurd rfl h
  | cons c t =>
    simp only [readA]
    rw [nameV]
    rfl
theorem ba_of2 (s : ByteArray) : s = ⟨s.data.toList.toArray⟩ := ByteArray.ext (Array.ext' (by simp))
theorem readI_len {all rest inp : List UInt8} (h : ReadI all rest inp) : all.length + rest.length ≤ inp.length + 1 := by
  rcases h with h | ⟨h, h'⟩
  · rw [← h, List.length_append]; omega
  · rw [h, h']; simp
set_option maxRecDepth 100000 in
set_option maxHeartbeats 4000000 in
theorem breads_card (s : ByteArray) (m0 : Int) (w : World) (hl : LibW w m0) : Calls Tryd.prog 6 #[.string s] w (Ret w (.bool true)) := by
  obtain ⟨inn, hs⟩ : ∃ inn : List UInt8, s = ⟨inn.toArray⟩ := ⟨s.data.toList, ba_of2 s⟩
  subst hs
  have HF := Lib.hid (first8_any m0 w hl)
  have HL := Lib.hid hl
  clear hl
  obtain ⟨n, hn⟩ : ∃ n, n = inn.length := ⟨_, rfl⟩
  have HN := Lib.hid hn
  by_cases h2000 : n ≤ 2000
  · have hnn : inn.length ≤ 2000 := by omega
    have HE := Lib.hid (fun (W : World) (hW : Below w.heap.size w W) (r : List UInt8) (hr : r.length ≤ 2000) => do_read r (some ⟨W.heap.size, 0, none⟩) 1 [[118]] (W.alloc (.cells #[.string { data := #[118] }] 9)) m0 ((HL.out.below hW).below (below1 _ _)) (rdl_lit W _ _ _ rfl) (by decide) (by decide) (by omega))
    clear hn
    go_enter Tryd.func6, Tryd.ntmps6
    go_wp2_with fail
    refine HF.out.mono ?_
    rintro e w1 ⟨rfl, hb⟩
    clear HF
    go_wp2_with fail
    go_loopw [4, 5, 6] (fun q a i wr => ∃ (k : Nat) (r al : List UInt8), i = .int .i64 k ∧ q = .string ⟨r.toArray⟩ ∧ a = .string ⟨al.toArray⟩ ∧ r.length + k ≤ n ∧ Below w.heap.size w wr ∧ Hid (ReadI al r inn)) (fun _ _ i _ => 3000 - (intOf i).toNat)
    case atStart => exact ⟨0, inn, [], rfl, rfl, rfl, by rw [HN.out]; exact Nat.le_refl _, hb, readI_start inn⟩
    case round =>
      obtain ⟨k, r, al, rfl, rfl, rfl, hrk, hbr, HI⟩ := hrel
      have HB := Lib.hid hbr
      have hale := readI_len HI.out
      have hE := HE.out wr hbr r (by omega)
      clear hbr hb
      by_cases hr : r = []
      · subst hr
        rw [read_nil] at hE
        simp only [DoRet, ocV] at hE
        have HEE := Lib.hid hE
        clear hE HE
        go_wp2_with fail
        refine HEE.out.mono ?_
        rintro e w2 ⟨rfl, hb2⟩
        have HB2 := Lib.hid (HB.out.trans (((below1 wr (.cells #[.string { data := #[118] }] 9)).trans (hb2.mono (below1 wr (.cells #[.string { data := #[118] }] 9)).size)).mono HB.out.size))
        have hal : al.length ≤ 2001 := by simp at hale; omega
        have hA : (⟨inn.toArray⟩ ++ ⟨#[10]⟩ : ByteArray) = ⟨(inn ++ [10]).toArray⟩ := by apply ByteArray.ext; simp
        clear hb2 HEE
        rcases readI_end HI.out with h | h
        · subst h
          clear HI
          go_wp2_with fail
          go_ret
          exact ⟨rfl, HB2.out.trans ((below1 _ _).mono HB2.out.size)⟩
        · subst h
          have hne : (inn ++ [10] == inn) = false := by
            rw [beq_eq_false_iff_ne]
            intro h
            have := congrArg List.length h
            simp at this
          clear HI
          go_wp2_with fail
          go_ret
          exact ⟨rfl, HB2.out.trans ((below1 _ _).mono HB2.out.size)⟩
      · rw [read_more hr] at hE
        simp only [DoRet, ocV] at hE
        have HEE := Lib.hid hE
        clear hE HE
        have HI2 := Lib.hid (readI_step HI.out hr)
        have hle := cutN_le r
        have hlt2 := cutN_lt hr
        have HNO := Lib.hid (cutN_no r)
        have hrp : 0 < r.length := List.length_pos_iff.2 hr
        obtain ⟨lv, hu1⟩ : ∃ u, u = (cutN r).1 := ⟨_, rfl⟩
        obtain ⟨lr, hu2⟩ : ∃ u, u = (cutN r).2 := ⟨_, rfl⟩
        rw [← hu1] at HEE HI2 HNO hle
        rw [← hu2] at HEE HI2 hle hlt2
        obtain ⟨vb, hvb⟩ : ∃ vb : ByteArray, vb = ⟨lv.toArray⟩ := ⟨_, rfl⟩
        have HVN := Lib.hid (show vb.size = lv.length by rw [hvb]; show lv.toArray.size = _; rw [List.size_toArray])
        have HVA := Lib.hid (show ∀ (j : Nat) (hj : j < vb.size) (hj2 : j < lv.length), vb[j]'hj = lv[j]'hj2 from fun j hj hj2 => by subst hvb; rfl)
        have HVC := Lib.hid (show ∀ x : List UInt8, (⟨x.toArray⟩ ++ vb ++ ⟨#[10]⟩ : ByteArray) = ⟨(x ++ lv ++ [10]).toArray⟩ from fun x => by subst hvb; apply ByteArray.ext; simp)
        rw [← hvb] at HEE
        have hvs : vb.size ≤ 2000 := by have := HVN.out; omega
        have hals : al.length ≤ 2001 := by omega
        have hal2 : (⟨al.toArray⟩ : ByteArray).size ≤ 2001 := by show al.toArray.size ≤ _; rw [List.size_toArray]; exact hals
        have hsz : ¬ (r.length ≤ lr.length) := by omega
        clear hu1 hu2 hvb HI hr
        go_wp2_with fail
        refine HEE.out.mono ?_
        rintro e w2 ⟨rfl, hb2⟩
        have HB2 := Lib.hid (HB.out.trans (((below1 wr (.cells #[.string { data := #[118] }] 9)).trans (hb2.mono (below1 wr (.cells #[.string { data := #[118] }] 9)).size)).mono HB.out.size))
        clear hb2 HEE
        go_upto_region 12 with (fail)
        have hQ := Blk.new w2 56 #[.string { data := #[] }, .string { data := lr.toArray }, .int .i64 0, .string { data := #[118] }, .string vb, .bool false]
        have HB3 := Lib.hid (HB2.out.trans ((below1 w2 (.cells #[.string { data := #[] }, .string { data := lr.toArray }, .int .i64 0, .string { data := #[118] }, .string vb, .bool false] 56)).mono HB2.out.size))
        obtain ⟨g, hg⟩ : ∃ g, g = w2.heap.size := ⟨_, rfl⟩
        rw [← hg] at hQ ⊢
        clear hg HB2 HB
        generalize w2.alloc (.cells #[.string { data := #[] }, .string { data := lr.toArray }, .int .i64 0, .string { data := #[118] }, .string vb, .bool false] 56) = w3 at *
        have d1 := hQ.cell 1
        have d2 := hQ.cell 2
        have d3 := hQ.cell 3
        have d4 := hQ.cell 4
        simp only [List.getElem?_toArray, List.getElem?_cons_zero, List.getElem?_cons_succ] at d1 d2 d3 d4
        clear hQ
        generalize wr = wo at *
        go_wp2_with fail
        go_loopw [9] (fun j wr => ∃ jj : Nat, jj ≤ vb.size ∧ j = .int .i64 jj ∧ w3 = wr) (fun j _ => vb.size - (intOf j).toNat)
        case atStart => exact ⟨0, Nat.zero_le _, rfl, rfl⟩
        case round =>
          obtain ⟨j, hj, rfl, hwr⟩ := hrel
          subst hwr
          by_cases hjl : j < vb.size
          · have hj2 : j < lv.length := by have := HVN.out; omega
            obtain ⟨c, hc⟩ : ∃ c, c = lv[j] := ⟨_, rfl⟩
            have hxk : ∀ h, vb[j]'h = c := fun h => by rw [hc]; exact HVA.out j h hj2
            have n1 : ((c.toNat : Int) == 10) = false := by
              rw [beq_eq_false_iff_ne]
              intro h
              refine HNO.out c (by rw [hc]; exact List.getElem_mem hj2) ?_
              apply UInt8.toNat.inj
              show c.toNat = 10
              omega
            clear hc
            go_wp2_with fail
            go_roundw
            case rel => exact ⟨j + 1, by omega, by go_num, trivial⟩
            case measure => simp [intOf]; omega
          · obtain rfl : j = vb.size := by omega
            clear hj hjl
            go_wp2_with fail
            go_roundw
            case rel => exact ⟨k + 1, lr, al ++ lv ++ [10], by go_num, rfl, by rw [HVC.out], by omega, HB3.out, HI2⟩
            case measure => simp [intOf]; omega
  · have h2 : ¬ inn.length ≤ 2000 := by omega
    go_enter Tryd.func6, Tryd.ntmps6
    go_wp2_with fail
    refine HF.out.mono ?_
    rintro e w1 ⟨rfl, hb⟩
    go_wp2_with fail
    go_ret
    exact ⟨rfl, hb⟩
end Go.Proofs.YtlhpflilpdceiaaDoor
