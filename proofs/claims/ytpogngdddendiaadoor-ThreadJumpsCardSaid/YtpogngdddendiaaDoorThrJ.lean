/- The walk over code.Check at a code that may be, whatever its last: nil. -/
import Derived.Test.YtpogngdddendiaaDoorGF
set_option linter.unusedVariables false
set_option linter.unusedSimpArgs false
namespace Go.Proofs.YtpogngdddendiaaDoor
open Go.RowKit

set_option maxRecDepth 100000 in
set_option maxHeartbeats 8000000 in
theorem ccheck_fine (A : Option Addr) (c : Nat) (st : Nat) (X : List Ins) (w : World) (hpos : 0 < X.length) (hlen : X.length ≤ 9000) (hst : st ≤ 9000) (hok : ∀ x ∈ X, okI (X.length - 1) x = true) (hlast : ∀ h : X.length - 1 < X.length, X[X.length - 1].op = 41 ∨ X[X.length - 1].op = 40 ∨ X[X.length - 1].op = 18) (hrd : RdL w 4 insc A X) :
    Calls Tryd.prog 13 #[.agg #[.slice A X.length c, .int .i64 st]] w (Ret w .nilIface) := by
  obtain ⟨m, hm⟩ : ∃ m, m = X.length := ⟨_, rfl⟩
  rw [← hm] at hpos hlen ⊢
  have HM := Lib.hid hm
  obtain ⟨W0, hW0⟩ : ∃ W0, W0 = w.alloc (.cells #[.slice A m c, .int .i64 st] 29) := ⟨_, rfl⟩
  have hb0 : Below w.heap.size w W0 := by rw [hW0]; exact (Below.refl _ _).alloc (Nat.le_refl _) _
  have hB0 : Blk W0 w.heap.size 29 #[.slice A m c, .int .i64 st] := by rw [hW0]; exact Blk.new w _ _
  have HB := Lib.hid hb0
  have HBK := Lib.hid hB0
  have HRD := Lib.hid (hrd.below hb0)
  have HOK := Lib.hid hok
  have HLAST := Lib.hid hlast
  have y0 := hB0.cell 0
  have y1 := hB0.cell 1
  simp only [List.getElem?_toArray, List.getElem?_cons_zero, List.getElem?_cons_succ] at y0 y1
  have b1 : ((m : Int) == 0) = false := by simp; omega
  obtain ⟨B, hB⟩ : ∃ B, B = w.heap.size := ⟨_, rfl⟩
  clear hm hb0 hB0 hrd hok hlast
  go_enter Tryd.func13, Tryd.ntmps13
  go_upto_region 1 with (fail)
  rw [← hW0]
  clear hW0
  rw [← hB] at y0 y1 HBK ⊢
  clear hB
  go_upto_region 3 with (fail)
  clear y0 y1
  have y0 := HBK.out.cell 0
  simp only [List.getElem?_toArray, List.getElem?_cons_zero, List.getElem?_cons_succ] at y0
  go_wp2_with fail
  have HBK2 := Lib.hid HBK.out
  clear y0
  go_loopw [30] (fun i wr => ∃ k : Nat, k ≤ m ∧ i = .int .i64 k ∧ Hid (Below W0.heap.size W0 wr)) (fun i _ => m - (intOf i).toNat)
  case atStart => exact ⟨0, Nat.zero_le _, rfl, Lib.hid (Below.refl _ _)⟩
  case round =>
    obtain ⟨k, hk, rfl, HR⟩ := hrel
    by_cases hlt : k < m
    · have hkL : k < X.length := by rw [← HM.out]; exact hlt
      obtain ⟨b, o, rfl, _, hcell⟩ := (HRD.out.below HR.out) k hkL
      obtain ⟨x, hx⟩ : ∃ x, x = X[k] := ⟨_, rfl⟩
      rw [← hx] at hcell
      have c0 := hcell 0 _ rfl
      have c1 := hcell 1 _ rfl
      have c2 := hcell 2 _ rfl
      have c3 := hcell 3 _ rfl
      simp only [Nat.add_zero] at c0
      have HX := Lib.hid (show okI (m - 1) x = true by rw [HM.out]; exact HOK.out x (by rw [hx]; exact List.getElem_mem _))
      have HL := Lib.hid (show k + 1 = m → x.op = 41 ∨ x.op = 40 ∨ x.op = 18 from fun h => by
        have hk2 : k = X.length - 1 := by rw [← HM.out]; omega
        subst hk2
        rw [hx]
        exact HLAST.out hkL)
      have HBR := Lib.hid (HBK.out.below HR.out)
      clear hcell hx hkL
      go_upto_region 6 with (fail)
      obtain ⟨W3, hW3⟩ : ∃ W3, W3 = wr.alloc (.cells #[.int .i64 x.op, .int .i64 x.a, .int .i64 x.b, .string ⟨x.s.toArray⟩] 36) := ⟨_, rfl⟩
      have hb3 : Below wr.heap.size wr W3 := by rw [hW3]; exact (Below.refl _ _).alloc (Nat.le_refl _) _
      have hB3 : Blk W3 wr.heap.size 36 #[.int .i64 x.op, .int .i64 x.a, .int .i64 x.b, .string ⟨x.s.toArray⟩] := by rw [hW3]; exact Blk.new wr _ _
      have HR3 := Lib.hid (HR.out.trans (hb3.mono HR.out.size))
      have HMAY := Lib.hid (may_any x (m - 1) m W3 HX.out (by omega))
      have p0 := hB3.cell 0
      have p1 := hB3.cell 1
      have p2 := hB3.cell 2
      have p3 := hB3.cell 3
      have y0 := (HBR.out.below hb3).cell 0
      simp only [List.getElem?_toArray, List.getElem?_cons_zero, List.getElem?_cons_succ] at p0 p1 p2 p3 y0
      rw [← hW3]
      clear hb3 hB3 hW3 c0 c1 c2 c3
      generalize wr.heap.size = gi at *
      clear HX
      by_cases hk1 : k + 1 = m
      · have hop0 := HL.out hk1
        clear HL
        have hg : ((k : Int) == (m : Int) - 1) = true := by rw [beq_iff_eq]; omega
        clear hk1
        rcases hop0 with hop | hop | hop
        · skip
          obtain ⟨op, xa, xb, xs⟩ := x
          simp only at hop p0 p1 p2 p3 HMAY
          subst hop
          go_wp2_with fail
          refine HMAY.out.mono ?_
          rintro e w4 ⟨rfl, hb4⟩
          have HR4 := Lib.hid (HR3.out.trans (hb4.mono HR3.out.size))
          have y4 := cell_keep hb4 y0
          clear HMAY p0 p1 p2 p3 y0 hb4
          go_wp2_with fail
          go_roundw
          case rel => exact ⟨k + 1, by omega, by go_num, HR4⟩
          case measure => simp [intOf]; omega
        · skip
          obtain ⟨op, xa, xb, xs⟩ := x
          simp only at hop p0 p1 p2 p3 HMAY
          subst hop
          go_wp2_with fail
          refine HMAY.out.mono ?_
          rintro e w4 ⟨rfl, hb4⟩
          have HR4 := Lib.hid (HR3.out.trans (hb4.mono HR3.out.size))
          have y4 := cell_keep hb4 y0
          clear HMAY p0 p1 p2 p3 y0 hb4
          go_wp2_with fail
          go_roundw
          case rel => exact ⟨k + 1, by omega, by go_num, HR4⟩
          case measure => simp [intOf]; omega
        · skip
          obtain ⟨op, xa, xb, xs⟩ := x
          simp only at hop p0 p1 p2 p3 HMAY
          subst hop
          go_wp2_with fail
          refine HMAY.out.mono ?_
          rintro e w4 ⟨rfl, hb4⟩
          have HR4 := Lib.hid (HR3.out.trans (hb4.mono HR3.out.size))
          have y4 := cell_keep hb4 y0
          clear HMAY p0 p1 p2 p3 y0 hb4
          go_wp2_with fail
          go_roundw
          case rel => exact ⟨k + 1, by omega, by go_num, HR4⟩
          case measure => simp [intOf]; omega
      · have hg : ((k : Int) == (m : Int) - 1) = false := by simp; omega
        have hcase : x.op = 41 ∨ x.op = 40 ∨ x.op = 18 ∨ (x.op ≠ 41 ∧ x.op ≠ 40 ∧ x.op ≠ 18) := by omega
        clear HL hk1
        rcases hcase with hop | hop | hop | ⟨g1, g2, g3⟩
        · skip
          obtain ⟨op, xa, xb, xs⟩ := x
          simp only at hop p0 p1 p2 p3 HMAY
          subst hop
          go_wp2_with fail
          refine HMAY.out.mono ?_
          rintro e w4 ⟨rfl, hb4⟩
          have HR4 := Lib.hid (HR3.out.trans (hb4.mono HR3.out.size))
          have y4 := cell_keep hb4 y0
          clear HMAY p0 p1 p2 p3 y0 hb4
          go_wp2_with fail
          go_roundw
          case rel => exact ⟨k + 1, by omega, by go_num, HR4⟩
          case measure => simp [intOf]; omega
        · skip
          obtain ⟨op, xa, xb, xs⟩ := x
          simp only at hop p0 p1 p2 p3 HMAY
          subst hop
          go_wp2_with fail
          refine HMAY.out.mono ?_
          rintro e w4 ⟨rfl, hb4⟩
          have HR4 := Lib.hid (HR3.out.trans (hb4.mono HR3.out.size))
          have y4 := cell_keep hb4 y0
          clear HMAY p0 p1 p2 p3 y0 hb4
          go_wp2_with fail
          go_roundw
          case rel => exact ⟨k + 1, by omega, by go_num, HR4⟩
          case measure => simp [intOf]; omega
        · skip
          obtain ⟨op, xa, xb, xs⟩ := x
          simp only at hop p0 p1 p2 p3 HMAY
          subst hop
          go_wp2_with fail
          refine HMAY.out.mono ?_
          rintro e w4 ⟨rfl, hb4⟩
          have HR4 := Lib.hid (HR3.out.trans (hb4.mono HR3.out.size))
          have y4 := cell_keep hb4 y0
          clear HMAY p0 p1 p2 p3 y0 hb4
          go_wp2_with fail
          go_roundw
          case rel => exact ⟨k + 1, by omega, by go_num, HR4⟩
          case measure => simp [intOf]; omega
        · have e1 : (x.op == 41) = false := by simp [g1]
          have e2 : (x.op == 40) = false := by simp [g2]
          have e3 : (x.op == 18) = false := by simp [g3]
          clear g1 g2 g3
          go_wp2_with fail
          refine HMAY.out.mono ?_
          rintro e w4 ⟨rfl, hb4⟩
          have HR4 := Lib.hid (HR3.out.trans (hb4.mono HR3.out.size))
          have y4 := cell_keep hb4 y0
          clear HMAY p0 p1 p2 p3 y0 hb4
          go_wp2_with fail
          go_roundw
          case rel => exact ⟨k + 1, by omega, by go_num, HR4⟩
          case measure => simp [intOf]; omega
    · obtain rfl : k = m := by omega
      go_wp2_with fail
      go_ret
      exact ⟨rfl, HB.out.trans (HR.out.mono HB.out.size)⟩
end Go.Proofs.YtpogngdddendiaaDoor
