/- The walk over BuiltinDoes: for every name, text and list of texts the law returns true. The library's table and bound are hypotheses. -/
import Derived.Test.YtjpfolbghjhodaaDoorDoesN
import Derived.Test.YtjpfolbghjhodaaDoorDoesR
import Derived.Test.YtjpfolbghjhodaaDoorPatW6
set_option linter.unusedVariables false
set_option linter.unusedSimpArgs false
namespace Go.Proofs.YtjpfolbghjhodaaDoor
open Go.RowKit

theorem ba_ofD (s : ByteArray) : s = ⟨s.data.toList.toArray⟩ := ByteArray.ext (Array.ext' (by simp))
theorem sumL_snocD (L : List (List UInt8)) {k : Nat} (h : k < L.length) : sumL (L.take (k + 1)) = sumL (L.take k) + L[k].length := by
  rw [List.take_succ_eq_append_getElem h, sumL_snoc]
theorem sumL_bound {n : Nat} : ∀ {L : List (List UInt8)}, (∀ x ∈ L, x.length ≤ n) → sumL L ≤ n * L.length
  | [], _ => by simp [sumL]
  | x :: t, h => by
    have h1 := h x (by simp)
    have h2 := sumL_bound (L := t) (fun y hy => h y (by simp [hy]))
    simp only [sumL, List.length_cons, Nat.mul_add, Nat.mul_one]
    omega
set_option maxRecDepth 100000 in
set_option maxHeartbeats 8000000 in
theorem bdoes_card (s t : ByteArray) (A : Option Addr) (c : Nat) (L : List (List UInt8)) (m0 : Int) (w : World) (hrd : RdL w 1 strc A L) (hc : L.length ≤ c) (hsz : ∀ x ∈ L, x.length ≤ 140737488355328) (hl : LibW w m0) :
    Calls Tryd.prog 6 #[.string s, .string t, .slice A L.length c] w (Ret w (.bool true)) := by
  obtain ⟨name, hs⟩ : ∃ name : List UInt8, s = ⟨name.toArray⟩ := ⟨s.data.toList, ba_ofD s⟩
  subst hs
  obtain ⟨inn, hs⟩ : ∃ inn : List UInt8, t = ⟨inn.toArray⟩ := ⟨t.data.toList, ba_ofD t⟩
  subst hs
  have HF := Lib.hid (first8_any m0 w hl)
  have HL := Lib.hid hl
  have HRD := Lib.hid (fun (W : World) (hW : Below w.heap.size w W) => hrd.below hW)
  have HSZ := Lib.hid hsz
  clear hl hrd hsz
  obtain ⟨m, hm⟩ : ∃ m, m = L.length := ⟨_, rfl⟩
  have HM := Lib.hid hm
  rw [← hm] at hc ⊢
  clear hm
  have z1 : (⟨name.toArray⟩ : ByteArray).size = name.length := by show name.toArray.size = _; rw [List.size_toArray]
  have z2 : (⟨inn.toArray⟩ : ByteArray).size = inn.length := by show inn.toArray.size = _; rw [List.size_toArray]
  by_cases hm20 : m ≤ 20
  case neg =>
    have g1 : decide ((20 : Int) < (m : Int)) = true := decide_eq_true (by omega)
    go_enter Tryd.func6, Tryd.ntmps6
    go_wp2_with fail
    refine HF.out.mono ?_
    rintro e w1 ⟨rfl, hb⟩
    clear HF HRD HL
    go_wp2_with fail
    go_ret
    exact ⟨rfl, hb⟩
  have g1 : decide ((20 : Int) < (m : Int)) = false := decide_eq_false (by omega)
  by_cases hi : inn.length ≤ 3000
  case neg =>
    have g2 : decide ((3000 : Int) < (inn.length : Int)) = true := decide_eq_true (by omega)
    go_enter Tryd.func6, Tryd.ntmps6
    go_wp2_with fail
    refine HF.out.mono ?_
    rintro e w1 ⟨rfl, hb⟩
    clear HF HRD HL
    go_wp2_with fail
    go_ret
    exact ⟨rfl, hb⟩
  have g2 : decide ((3000 : Int) < (inn.length : Int)) = false := decide_eq_false (by omega)
  by_cases hna : name.length ≤ 100
  case neg =>
    have g3 : decide ((100 : Int) < (name.length : Int)) = true := decide_eq_true (by omega)
    go_enter Tryd.func6, Tryd.ntmps6
    go_wp2_with fail
    refine HF.out.mono ?_
    rintro e w1 ⟨rfl, hb⟩
    clear HF HRD HL
    go_wp2_with fail
    go_ret
    exact ⟨rfl, hb⟩
  have g3 : decide ((100 : Int) < (name.length : Int)) = false := decide_eq_false (by omega)
  have HNL := Lib.hid (show ((⟨name.toArray⟩ : ByteArray).toList == [108, 105, 107, 101]) = (name == [108, 105, 107, 101]) by rw [Lib.toList_data])
  go_enter Tryd.func6, Tryd.ntmps6
  go_wp2_with fail
  refine HF.out.mono ?_
  rintro e w1 ⟨rfl, hb⟩
  clear HF
  go_wp2_with fail
  go_loopw [8, 9] (fun u i wr => ∃ k : Nat, k ≤ m ∧ i = .int .i64 k ∧ u = .int .i64 (sumL (L.take k) : Int) ∧ w1 = wr) (fun _ i _ => m - (intOf i).toNat)
  case atStart => exact ⟨0, Nat.zero_le _, rfl, rfl, rfl⟩
  case round =>
    obtain ⟨k, hk, rfl, rfl, hwr⟩ := hrel
    subst hwr
    by_cases hlt : k < m
    · have hlt' : k < L.length := by rw [← HM.out]; exact hlt
      obtain ⟨b, o, hA, e0⟩ := (HRD.out _ hb).str4 hlt'
      subst hA
      have HSP := Lib.hid (sumL_snocD L hlt')
      have hx9 := HSZ.out _ (List.getElem_mem hlt')
      have hs9 : sumL (L.take k) ≤ 140737488355328 * 20 := by
        have h1 := sumL_bound (L := L.take k) (fun x hx => HSZ.out x (List.mem_of_mem_take hx))
        have h3 : (L.take k).length ≤ 20 := by rw [List.length_take]; omega
        exact Nat.le_trans h1 (Nat.mul_le_mul_left _ h3)
      obtain ⟨y, hy⟩ : ∃ y, y = L[k] := ⟨_, rfl⟩
      rw [← hy] at e0 HSP hx9
      have hys : (⟨y.toArray⟩ : ByteArray).size = y.length := by show y.toArray.size = _; rw [List.size_toArray]
      generalize sumL (L.take k) = q at *
      clear hy hlt'
      go_wp2_with fail
      go_roundw
      case rel => exact ⟨k + 1, by omega, by go_num, by rw [HSP.out]; go_num, trivial⟩
      case measure => simp [intOf]; omega
    · obtain rfl : k = m := by omega
      have HTL := Lib.hid (show L.take k = L by rw [HM.out, List.take_length])
      rw [HTL.out]
      clear HTL hlt hk
      obtain ⟨q, hq⟩ : ∃ q, q = sumL L := ⟨_, rfl⟩
      have HQ := Lib.hid hq
      rw [← hq]
      clear hq
      by_cases h3000 : q ≤ 3000
      case neg =>
        have g4 : decide ((3000 : Int) < (q : Int)) = true := decide_eq_true (by omega)
        go_wp2_with fail
        go_ret
        exact ⟨rfl, hb⟩
      have g4 : decide ((3000 : Int) < (q : Int)) = false := decide_eq_false (by omega)
      cases hlk : (name == [108, 105, 107, 101]) with
      | true =>
        by_cases h200 : q ≤ 200
        case neg =>
          have g5 : decide ((200 : Int) < (q : Int)) = true := decide_eq_true (by omega)
          go_wp2_with fail
          go_ret
          exact ⟨rfl, hb⟩
        have g5 : decide ((200 : Int) < (q : Int)) = false := decide_eq_false (by omega)
        have hq3 : sumL L ≤ 3000 := by rw [← HQ.out]; exact h3000
        have HSUM := Lib.hid (show L.length - 1 + sumL L ≤ 100000 by have := HM.out; omega)
        have HX := Lib.hid (show ∀ x ∈ L, x.length ≤ 100000 from fun x hx => by have := sum_mem hx; omega)
        have D1 := Lib.hid (fun (W : World) (hW : Below w.heap.size w W) => do_name name inn A c L W m0 (HL.out.below hW) (HRD.out W hW) (by rw [← HM.out]; exact hc) (fun x hx => Nat.le_trans (HX.out x hx) (by decide)) HSUM.out (by omega) (by omega))
        have D2 := Lib.hid (fun (W : World) (hW : Below w.heap.size w W) => refdo_any name inn A c L W (HRD.out W hW) (by rw [← HM.out]; exact hc) HX.out HSUM.out (by omega) (by omega))
        have DI := Lib.hid (fun (W : World) => bis_any name W (by omega))
        rw [doO_some] at D1 D2
        generalize cmdNames.contains name = r at *
        generalize (doO name inn L).getD (oc0 []) = o at *
        obtain ⟨oa, ob, oi, od, oe, of⟩ := o
        simp only [ocV] at D1 D2
        rw [← HM.out] at D1 D2
        clear HSUM HX
        go_wp2_with fail
        refine (D1.out _ hb).mono ?_
        rintro e x1 ⟨rfl, hx⟩
        replace hb := hb.trans (hx.mono hb.size)
        clear hx
        go_upto_region 12 with (fail)
        have K1 := Lib.hid (Blk.new x1 45 #[.string { data := oa.toArray }, .string { data := ob.toArray }, .int .i64 oi, .string { data := od.toArray }, .string { data := oe.toArray }, .bool of])
        have ha := below1 x1 (.cells #[.string { data := oa.toArray }, .string { data := ob.toArray }, .int .i64 oi, .string { data := od.toArray }, .string { data := oe.toArray }, .bool of] 45)
        replace hb := hb.trans (ha.mono hb.size)
        obtain ⟨g1, hg1⟩ : ∃ g, g = x1.heap.size := ⟨_, rfl⟩
        rw [← hg1] at K1 ⊢
        clear ha hg1
        generalize x1.alloc (.cells #[.string { data := oa.toArray }, .string { data := ob.toArray }, .int .i64 oi, .string { data := od.toArray }, .string { data := oe.toArray }, .bool of] 45) = v1 at *
        go_wp2_with fail
        refine (D2.out _ hb).mono ?_
        rintro e x2 ⟨rfl, hx⟩
        replace hb := hb.trans (hx.mono hb.size)
        replace K1 := Lib.hid (K1.out.below hx)
        clear hx
        go_upto_region 13 with (fail)
        have K2 := Lib.hid (Blk.new x2 48 #[.string { data := oa.toArray }, .string { data := ob.toArray }, .int .i64 oi, .string { data := od.toArray }, .string { data := oe.toArray }, .bool of])
        have ha := below1 x2 (.cells #[.string { data := oa.toArray }, .string { data := ob.toArray }, .int .i64 oi, .string { data := od.toArray }, .string { data := oe.toArray }, .bool of] 48)
        replace K1 := Lib.hid (K1.out.below ha)
        replace hb := hb.trans (ha.mono hb.size)
        obtain ⟨g2, hg2⟩ : ∃ g, g = x2.heap.size := ⟨_, rfl⟩
        rw [← hg2] at K2 ⊢
        clear ha hg2
        generalize x2.alloc (.cells #[.string { data := oa.toArray }, .string { data := ob.toArray }, .int .i64 oi, .string { data := od.toArray }, .string { data := oe.toArray }, .bool of] 48) = v2 at *
        have d0 := K1.out.cell 0
        have d1 := K1.out.cell 1
        have d2 := K1.out.cell 2
        have d3 := K1.out.cell 3
        have d4 := K1.out.cell 4
        have d5 := K1.out.cell 5
        have e0 := K2.out.cell 0
        have e1 := K2.out.cell 1
        have e2 := K2.out.cell 2
        have e3 := K2.out.cell 3
        have e4 := K2.out.cell 4
        have e5 := K2.out.cell 5
        simp only [List.getElem?_toArray, List.getElem?_cons_zero, List.getElem?_cons_succ] at d0 d1 d2 d3 d4 d5 e0 e1 e2 e3 e4 e5
        go_upto_region 15 with (fail)
        clear d0 d1 d2 d3 d4 d5 e0 e1 e2 e3 e4 e5 K1 K2 D1 D2
        go_wp2_with fail
        refine (DI.out _).mono ?_
        rintro e x3 ⟨rfl, hx⟩
        replace hb := hb.trans (hx.mono hb.size)
        clear hx
        go_wp2_with fail
        refine (names_any _).mono ?_
        rintro e x4 ⟨A4, c4, rfl, hr4, hx⟩
        replace hb := hb.trans (hx.mono hb.size)
        clear hx
        go_wp2_with fail
        refine (builtins_any _).mono ?_
        rintro e x5 ⟨A5, c5, rfl, hr5, hx⟩
        replace hb := hb.trans (hx.mono hb.size)
        replace hr4 := hr4.below hx
        clear hx
        have ST := Lib.hid (sameTexts_any A4 A5 c4 c5 cmdNames cmdNames x5 hr4 hr5 (by decide) (by decide))
        rw [decide_eq_true (rfl : cmdNames = cmdNames)] at ST
        clear hr4 hr5
        go_wp2_with fail
        refine ST.out.mono ?_
        rintro e x6 ⟨rfl, hx⟩
        replace hb := hb.trans (hx.mono hb.size)
        clear hx
        go_wp2_with fail
        go_ret
        exact ⟨rfl, hb⟩
      | false =>
        have hq3 : sumL L ≤ 3000 := by rw [← HQ.out]; exact h3000
        have HSUM := Lib.hid (show L.length - 1 + sumL L ≤ 100000 by have := HM.out; omega)
        have HX := Lib.hid (show ∀ x ∈ L, x.length ≤ 100000 from fun x hx => by have := sum_mem hx; omega)
        have D1 := Lib.hid (fun (W : World) (hW : Below w.heap.size w W) => do_name name inn A c L W m0 (HL.out.below hW) (HRD.out W hW) (by rw [← HM.out]; exact hc) (fun x hx => Nat.le_trans (HX.out x hx) (by decide)) HSUM.out (by omega) (by omega))
        have D2 := Lib.hid (fun (W : World) (hW : Below w.heap.size w W) => refdo_any name inn A c L W (HRD.out W hW) (by rw [← HM.out]; exact hc) HX.out HSUM.out (by omega) (by omega))
        have DI := Lib.hid (fun (W : World) => bis_any name W (by omega))
        rw [doO_some] at D1 D2
        generalize cmdNames.contains name = r at *
        generalize (doO name inn L).getD (oc0 []) = o at *
        obtain ⟨oa, ob, oi, od, oe, of⟩ := o
        simp only [ocV] at D1 D2
        rw [← HM.out] at D1 D2
        clear HSUM HX
        go_wp2_with fail
        refine (D1.out _ hb).mono ?_
        rintro e x1 ⟨rfl, hx⟩
        replace hb := hb.trans (hx.mono hb.size)
        clear hx
        go_upto_region 12 with (fail)
        have K1 := Lib.hid (Blk.new x1 45 #[.string { data := oa.toArray }, .string { data := ob.toArray }, .int .i64 oi, .string { data := od.toArray }, .string { data := oe.toArray }, .bool of])
        have ha := below1 x1 (.cells #[.string { data := oa.toArray }, .string { data := ob.toArray }, .int .i64 oi, .string { data := od.toArray }, .string { data := oe.toArray }, .bool of] 45)
        replace hb := hb.trans (ha.mono hb.size)
        obtain ⟨g1, hg1⟩ : ∃ g, g = x1.heap.size := ⟨_, rfl⟩
        rw [← hg1] at K1 ⊢
        clear ha hg1
        generalize x1.alloc (.cells #[.string { data := oa.toArray }, .string { data := ob.toArray }, .int .i64 oi, .string { data := od.toArray }, .string { data := oe.toArray }, .bool of] 45) = v1 at *
        go_wp2_with fail
        refine (D2.out _ hb).mono ?_
        rintro e x2 ⟨rfl, hx⟩
        replace hb := hb.trans (hx.mono hb.size)
        replace K1 := Lib.hid (K1.out.below hx)
        clear hx
        go_upto_region 13 with (fail)
        have K2 := Lib.hid (Blk.new x2 48 #[.string { data := oa.toArray }, .string { data := ob.toArray }, .int .i64 oi, .string { data := od.toArray }, .string { data := oe.toArray }, .bool of])
        have ha := below1 x2 (.cells #[.string { data := oa.toArray }, .string { data := ob.toArray }, .int .i64 oi, .string { data := od.toArray }, .string { data := oe.toArray }, .bool of] 48)
        replace K1 := Lib.hid (K1.out.below ha)
        replace hb := hb.trans (ha.mono hb.size)
        obtain ⟨g2, hg2⟩ : ∃ g, g = x2.heap.size := ⟨_, rfl⟩
        rw [← hg2] at K2 ⊢
        clear ha hg2
        generalize x2.alloc (.cells #[.string { data := oa.toArray }, .string { data := ob.toArray }, .int .i64 oi, .string { data := od.toArray }, .string { data := oe.toArray }, .bool of] 48) = v2 at *
        have d0 := K1.out.cell 0
        have d1 := K1.out.cell 1
        have d2 := K1.out.cell 2
        have d3 := K1.out.cell 3
        have d4 := K1.out.cell 4
        have d5 := K1.out.cell 5
        have e0 := K2.out.cell 0
        have e1 := K2.out.cell 1
        have e2 := K2.out.cell 2
        have e3 := K2.out.cell 3
        have e4 := K2.out.cell 4
        have e5 := K2.out.cell 5
        simp only [List.getElem?_toArray, List.getElem?_cons_zero, List.getElem?_cons_succ] at d0 d1 d2 d3 d4 d5 e0 e1 e2 e3 e4 e5
        go_upto_region 15 with (fail)
        clear d0 d1 d2 d3 d4 d5 e0 e1 e2 e3 e4 e5 K1 K2 D1 D2
        go_wp2_with fail
        refine (DI.out _).mono ?_
        rintro e x3 ⟨rfl, hx⟩
        replace hb := hb.trans (hx.mono hb.size)
        clear hx
        go_wp2_with fail
        refine (names_any _).mono ?_
        rintro e x4 ⟨A4, c4, rfl, hr4, hx⟩
        replace hb := hb.trans (hx.mono hb.size)
        clear hx
        go_wp2_with fail
        refine (builtins_any _).mono ?_
        rintro e x5 ⟨A5, c5, rfl, hr5, hx⟩
        replace hb := hb.trans (hx.mono hb.size)
        replace hr4 := hr4.below hx
        clear hx
        have ST := Lib.hid (sameTexts_any A4 A5 c4 c5 cmdNames cmdNames x5 hr4 hr5 (by decide) (by decide))
        rw [decide_eq_true (rfl : cmdNames = cmdNames)] at ST
        clear hr4 hr5
        go_wp2_with fail
        refine ST.out.mono ?_
        rintro e x6 ⟨rfl, hx⟩
        replace hb := hb.trans (hx.mono hb.size)
        clear hx
        go_wp2_with fail
        go_ret
        exact ⟨rfl, hb⟩
end Go.Proofs.YtjpfolbghjhodaaDoor
