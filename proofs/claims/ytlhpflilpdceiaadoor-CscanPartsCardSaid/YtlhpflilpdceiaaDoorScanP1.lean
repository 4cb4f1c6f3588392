/- The walk over package cscan's part: a byte behind a backslash. Bounds on the lengths. -/
import Derived.Test.YtlhpflilpdceiaaDoorScanW6
set_option linter.unusedVariables false
set_option linter.unusedSimpArgs false
namespace Go.Proofs.YtlhpflilpdceiaaDoor
open Go.RowKit

set_option maxRecDepth 100000 in
set_option maxHeartbeats 8000000 in
theorem part_esc_any (B S : Nat) (s : ByteArray) (i : Nat) (Ls : List Addr) (w : World) (h : Rdr w B S s i) (hE : SenW w Ls) (hs : s.size ≤ 1000000) (hi : i < s.size) (hcc : s.data.toList[i]'hi = 92) :
    Calls Tryd.prog 71 #[.pointer (some ⟨B, 0, none⟩)] w (PartRet (partA s.data.toList i) Ls w) := by
  obtain ⟨aN, haN⟩ : ∃ a, Ls[3]? = some a := ⟨Ls[3]'(by rw [hE.len]; decide), List.getElem?_eq_getElem _⟩
  have HN0 := Lib.hid (hE.var 3 _ aN rfl haN)
  have HSE := Lib.hid hE
  clear hE
  obtain ⟨w1, hw1⟩ : ∃ w1, w1 = w.alloc (.cells #[.int .i64 0, .int .i64 0, .int .i64 0, .string { data := #[] }] 48) := ⟨_, rfl⟩
  have hb1 : Below w.heap.size w w1 := by rw [hw1]; exact (Below.refl _ _).alloc (Nat.le_refl _) _
  have hQ1 : Blk w1 w.heap.size 48 #[.int .i64 0, .int .i64 0, .int .i64 0, .string { data := #[] }] := by rw [hw1]; exact Blk.new w _ _
  have HZ1 := Lib.hid (show w1.heap.size = w.heap.size + 1 by rw [hw1]; exact alloc_size _ _)
  have hr1 := h.below hb1
  have r0 := hr1.c0
  have r1 := hr1.c1
  have r2 := hr1.c2
  obtain ⟨L, hL⟩ : ∃ L, L = s.data.toList := ⟨_, rfl⟩
  have hn : L.length = s.size := by rw [hL]; rfl
  have hi' : i < L.length := by omega
  have HSL := Lib.hid (fun W => bslice_any s i (i + 1) W)
  have HBY := Lib.hid (fun W => byte_any s (i + 1) W)
  have HDL := Lib.hid (fun (W : World) (hr : Rdr W B S s i) (he : SenW W Ls) => dollar_any B S s i Ls W hr he hs hi)
  rw [← hL] at HSL HBY HDL ⊢
  rw [cut_one hi'] at HSL
  have HW1 := Lib.hid hw1
  have HQ1 := Lib.hid hQ1
  have HR1 := Lib.hid hr1
  have HB1 := Lib.hid hb1
  have HL := Lib.hid hL
  obtain ⟨c, hc⟩ : ∃ c, c = L[i] := ⟨_, rfl⟩
  rw [← hc] at HSL
  clear hw1 hQ1 hr1 hb1 hL h
  have h92 : c = 92 := by rw [hc]; simpa only [HL.out] using hcc
  rw [partA_esc hi' (by rw [← hc]; exact h92)]
  rw [h92] at HSL
  obtain ⟨cs, hcs⟩ : ∃ cs : ByteArray, cs = ⟨#[92]⟩ := ⟨_, rfl⟩
  have hHSL : ∀ W, Calls Tryd.prog 48 #[.agg #[.string s], .int .i64 i, .int .i64 (i + 1)] W (Ret W (.string cs)) := by rw [hcs]; exact HSL.out
  replace HSL := Lib.hid hHSL
  have HCS := Lib.hid hcs
  clear hHSL h92 hc hcs
  by_cases h2 : i + 1 < L.length
  · rw [dif_pos h2]
    rw [byteV_in h2] at HBY
    obtain ⟨d, hd⟩ : ∃ d, d = L[i + 1] := ⟨_, rfl⟩
    rw [← hd] at HBY ⊢
    clear hd
    by_cases h110 : d = 110
    · subst h110
      replace HBY := Lib.hid (show ∀ W, Calls Tryd.prog 45 #[.agg #[.string s], .int .i64 ((i + 1 : Nat) : Int)] W (Ret W (.tuple #[.int .u8 110, .bool true])) from HBY.out)
      go_enter Tryd.func71, Tryd.ntmps71
      go_upto_region 1 with (fail)
      rw [← HW1.out]
      apply wp_region_relA 23 [eqT _, eqT _, eqT _, eqT _, eqT _, eqT _, eqT _, eqT _, eqT _, eqT _, eqT _, eqT _, eqT _, eqT _, eqT _, eqT _, eqT _, eqT _, eqT _, eqT _, eqT _, eqT _, newT 48 #[.int .i64 0, .int .i64 0, .int .i64 0, .string { data := #[] }] w1.heap.size] (by kernel_rfl) (by kernel_rfl) (by kernel_rfl) rfl
      focus
        refine ⟨?_, ?_⟩
        focus
          unfold opGoal
          rw [if_pos (by kernel_rfl)]
          intro x hb hd K hk
          clear hd
          go_wp2_with fail
          exact hk _ _ rfl trivial (Below.refl _ _)
        rintro _ rfl
        simp only [Act.put, List.setIfInBounds_toArray, List.set_cons_succ, List.set_cons_zero]
        refine ⟨?_, ?_⟩
        focus
          unfold opGoal
          rw [if_pos (by kernel_rfl)]
          intro x hb hd K hk
          clear hd
          go_wp2_with fail
          exact hk _ _ rfl trivial (Below.refl _ _)
        rintro _ rfl
        simp only [Act.put, List.setIfInBounds_toArray, List.set_cons_succ, List.set_cons_zero]
        refine ⟨?_, ?_⟩
        focus
          unfold opGoal
          rw [if_pos (by kernel_rfl)]
          intro x hb hd K hk
          clear hd
          go_wp2_with fail
          exact hk _ _ rfl trivial (Below.refl _ _)
        rintro _ rfl
        simp only [Act.put, List.setIfInBounds_toArray, List.set_cons_succ, List.set_cons_zero]
        refine ⟨?_, ?_⟩
        focus
          unfold opGoal
          rw [if_pos (by kernel_rfl)]
          intro x hb hd K hk
          clear hd
          have l0 := cell_keep hb r1
          go_wp2_with fail
          exact hk _ _ rfl trivial (Below.refl _ _)
        rintro _ rfl
        simp only [Act.put, List.setIfInBounds_toArray, List.set_cons_succ, List.set_cons_zero]
        refine ⟨?_, ?_⟩
        focus
          unfold opGoal
          rw [if_pos (by kernel_rfl)]
          intro x hb hd K hk
          clear hd
          go_wp2_with fail
          exact hk _ _ rfl trivial (Below.refl _ _)
        rintro _ rfl
        simp only [Act.put, List.setIfInBounds_toArray, List.set_cons_succ, List.set_cons_zero]
        refine ⟨?_, ?_⟩
        focus
          unfold opGoal
          rw [if_pos (by kernel_rfl)]
          intro x hb hd K hk
          clear hd
          go_wp2_with fail
          exact hk _ _ rfl trivial (Below.refl _ _)
        rintro _ rfl
        simp only [Act.put, List.setIfInBounds_toArray, List.set_cons_succ, List.set_cons_zero]
        refine ⟨?_, ?_⟩
        focus
          unfold opGoal
          rw [if_pos (by kernel_rfl)]
          intro x hb hd K hk
          clear hd
          go_wp2_with fail
          exact hk _ _ rfl trivial (Below.refl _ _)
        rintro _ rfl
        simp only [Act.put, List.setIfInBounds_toArray, List.set_cons_succ, List.set_cons_zero]
        refine ⟨?_, ?_⟩
        focus
          unfold opGoal
          rw [if_pos (by kernel_rfl)]
          intro x hb hd K hk
          clear hd
          have l0 := cell_keep hb r0
          go_wp2_with fail
          exact hk _ _ rfl trivial (Below.refl _ _)
        rintro _ rfl
        simp only [Act.put, List.setIfInBounds_toArray, List.set_cons_succ, List.set_cons_zero]
        refine ⟨?_, ?_⟩
        focus
          unfold opGoal
          rw [if_pos (by kernel_rfl)]
          intro x hb hd K hk
          clear hd
          go_wp2_with fail
          exact hk _ _ rfl trivial (Below.refl _ _)
        rintro _ rfl
        simp only [Act.put, List.setIfInBounds_toArray, List.set_cons_succ, List.set_cons_zero]
        refine ⟨?_, ?_⟩
        focus
          unfold opGoal
          rw [if_pos (by kernel_rfl)]
          intro x hb hd K hk
          clear hd
          go_wp2_with fail
          exact hk _ _ rfl trivial (Below.refl _ _)
        rintro _ rfl
        simp only [Act.put, List.setIfInBounds_toArray, List.set_cons_succ, List.set_cons_zero]
        refine ⟨?_, ?_⟩
        focus
          unfold opGoal
          rw [if_pos (by kernel_rfl)]
          intro x hb hd K hk
          clear hd
          have l0 := cell_keep hb r2
          go_wp2_with fail
          exact hk _ _ rfl trivial (Below.refl _ _)
        rintro _ rfl
        simp only [Act.put, List.setIfInBounds_toArray, List.set_cons_succ, List.set_cons_zero]
        refine ⟨?_, ?_⟩
        focus
          unfold opGoal
          rw [if_pos (by kernel_rfl)]
          intro x hb hd K hk
          clear hd
          go_wp2_with fail
          exact hk _ _ rfl trivial (Below.refl _ _)
        rintro _ rfl
        simp only [Act.put, List.setIfInBounds_toArray, List.set_cons_succ, List.set_cons_zero]
        refine ⟨?_, ?_⟩
        focus
          unfold opGoal
          rw [if_pos (by kernel_rfl)]
          intro x hb hd K hk
          clear hd
          go_wp2_with fail
          exact hk _ _ rfl trivial (Below.refl _ _)
        rintro _ rfl
        simp only [Act.put, List.setIfInBounds_toArray, List.set_cons_succ, List.set_cons_zero]
        refine ⟨?_, ?_⟩
        focus
          unfold opGoal
          rw [if_pos (by kernel_rfl)]
          intro x hb hd K hk
          clear hd
          go_wp2_with fail
          exact hk _ _ rfl trivial (Below.refl _ _)
        rintro _ rfl
        simp only [Act.put, List.setIfInBounds_toArray, List.set_cons_succ, List.set_cons_zero]
        refine ⟨?_, ?_⟩
        focus
          unfold opGoal
          rw [if_pos (by kernel_rfl)]
          intro x hb hd K hk
          clear hd
          have l0 := cell_keep hb r1
          go_wp2_with fail
          exact hk _ _ rfl trivial (Below.refl _ _)
        rintro _ rfl
        simp only [Act.put, List.setIfInBounds_toArray, List.set_cons_succ, List.set_cons_zero]
        refine ⟨?_, ?_⟩
        focus
          unfold opGoal
          rw [if_pos (by kernel_rfl)]
          intro x hb hd K hk
          clear hd
          go_wp2_with fail
          exact hk _ _ rfl trivial (Below.refl _ _)
        rintro _ rfl
        simp only [Act.put, List.setIfInBounds_toArray, List.set_cons_succ, List.set_cons_zero]
        refine ⟨?_, ?_⟩
        focus
          unfold opGoal
          rw [if_pos (by kernel_rfl)]
          intro x hb hd K hk
          clear hd
          go_wp2_with fail
          exact hk _ _ rfl trivial (Below.refl _ _)
        rintro _ rfl
        simp only [Act.put, List.setIfInBounds_toArray, List.set_cons_succ, List.set_cons_zero]
        refine ⟨?_, ?_⟩
        focus
          unfold opGoal
          rw [if_pos (by kernel_rfl)]
          intro x hb hd K hk
          clear hd
          go_wp2_with fail
          exact hk _ _ rfl trivial (Below.refl _ _)
        rintro _ rfl
        simp only [Act.put, List.setIfInBounds_toArray, List.set_cons_succ, List.set_cons_zero]
        refine ⟨?_, ?_⟩
        focus
          unfold opGoal
          rw [if_pos (by kernel_rfl)]
          intro x hb hd K hk
          clear hd
          have l0 := cell_keep hb r1
          go_wp2_with fail
          exact hk _ _ rfl trivial (Below.refl _ _)
        rintro _ rfl
        simp only [Act.put, List.setIfInBounds_toArray, List.set_cons_succ, List.set_cons_zero]
        refine ⟨?_, ?_⟩
        focus
          unfold opGoal
          rw [if_pos (by kernel_rfl)]
          intro x hb hd K hk
          clear hd
          go_wp2_with fail
          exact hk _ _ rfl trivial (Below.refl _ _)
        rintro _ rfl
        simp only [Act.put, List.setIfInBounds_toArray, List.set_cons_succ, List.set_cons_zero]
        refine ⟨?_, ?_⟩
        focus
          unfold opGoal
          rw [if_pos (by kernel_rfl)]
          intro x hb hd K hk
          clear hd
          go_wp2_with fail
          refine (Hid.out HSL x).mono ?_
          rintro e x' ⟨rfl, hb'⟩
          exact hk _ _ rfl trivial hb'
        rintro _ rfl
        simp only [Act.put, List.setIfInBounds_toArray, List.set_cons_succ, List.set_cons_zero]
        refine ⟨?_, ?_⟩
        focus
          unfold opGoal
          rw [if_pos (by kernel_rfl)]
          intro x hb hd K hk
          clear hd
          go_wp2_with fail
          exact hk _ _ rfl trivial (Below.refl _ _)
        rintro _ rfl
        simp only [Act.put, List.setIfInBounds_toArray, List.set_cons_succ, List.set_cons_zero]
        refine ⟨?_, ?_⟩
        focus
          unfold opGoal
          rw [if_pos (by kernel_rfl)]
          intro x hb hd K hk
          clear hd
          go_wp2_with fail
          refine hk _ _ ⟨_, rfl⟩ ?_ ((Below.refl _ _).alloc (Nat.le_refl _) _)
          intro g hg
          injection hg with hg
          injection hg with hg
          injection hg with hg
          subst hg
          exact ⟨Blk.new x _ _, hb.size⟩
        rintro _ ⟨P, rfl⟩
        simp only [Act.put, List.setIfInBounds_toArray, List.set_cons_succ, List.set_cons_zero]
        intro x hbx hf
        simp only [List.drop_succ_cons, List.drop_zero]
        obtain ⟨hPx, hPb⟩ := hf 22 (newT 48 #[.int .i64 0, .int .i64 0, .int .i64 0, .string { data := #[] }] w1.heap.size) (.pointer (some ⟨P, 0, none⟩)) (by kernel_rfl) (by kernel_rfl) P rfl
        clear hf
        have m0 := hPx.cell 0
        have m1 := hPx.cell 1
        have m2 := hPx.cell 2
        have m3 := hPx.cell 3
        have f0 := hPx.frozen 0
        have f1 := hPx.frozen 1
        have f2 := hPx.frozen 2
        have f3 := hPx.frozen 3
        simp only [List.getElem?_toArray, List.getElem?_cons_zero, List.getElem?_cons_succ] at m0 m1 m2 m3
        have HPX := Lib.hid hPx
        clear hPx
        have hPQ : P ≠ w.heap.size := by rw [HZ1.out] at hPb; omega
        have hPb2 : w.heap.size ≤ P := by rw [HZ1.out] at hPb; omega
        have HXB := Lib.hid hbx
        clear hbx r0 r1 r2 HSL
        go_wp2_with fail
        have hP := HPX.out.set4 (.int .i64 1) (.int .i64 i) (.int .i64 0) (.string cs)
        have hQ := (But.set4 P x (.int .i64 1) (.int .i64 i) (.int .i64 0) (.string cs)).blk (HQ1.out.below HXB.out) (fun e => hPQ e.symm)
        have hR := (HR1.out.below HXB.out).set4 HPX.out (.int .i64 1) (.int .i64 i) (.int .i64 0) (.string cs)
        have hbw := below_set4 (HB1.out.trans (HXB.out.mono HB1.out.size)) hPb2 (.int .i64 1) (.int .i64 i) (.int .i64 0) (.string cs)
        generalize (((x.setCell ⟨P, 0, none⟩ (.int .i64 1)).setCell ⟨P, 1, none⟩ (.int .i64 i)).setCell ⟨P, 2, none⟩ (.int .i64 0)).setCell ⟨P, 3, none⟩ (.string cs) = wy at *
        clear m0 m1 m2 m3 f0 f1 f2 f3 HPX HXB HQ1 HR1 HB1 HW1 HZ1 hPb x w1
        have l0 := Later.cell hR.c0
        have l1 := Later.cell hR.c1
        have l2 := Later.cell hR.c2
        have HP := Lib.hid hP
        have HQ := Lib.hid hQ
        have HR := Lib.hid hR
        have HB := Lib.hid hbw
        clear hP hQ hR hbw
        refine wp_region_eq (by kernel_rfl) (by kernel_rfl) ?_
        apply EqGo.run
        focus
          kernel_rfl
        focus
          intro x K hK
          go_wp2_with fail
          first | exact hK x (Below.refl _ _) | exact Below.refl _ _
        simp only [Act.put, List.setIfInBounds_toArray, List.set_cons_succ, List.set_cons_zero]
        apply EqGo.run
        focus
          kernel_rfl
        focus
          intro x K hK
          go_wp2_with fail
          first | exact hK x (Below.refl _ _) | exact Below.refl _ _
        simp only [Act.put, List.setIfInBounds_toArray, List.set_cons_succ, List.set_cons_zero]
        apply EqGo.run
        focus
          kernel_rfl
        focus
          intro x K hK
          go_wp2_with fail
          first | exact hK x (Below.refl _ _) | exact Below.refl _ _
        simp only [Act.put, List.setIfInBounds_toArray, List.set_cons_succ, List.set_cons_zero]
        apply EqGo.run
        focus
          kernel_rfl
        focus
          intro x K hK
          go_wp2_with fail
          first | exact hK x (Below.refl _ _) | exact Below.refl _ _
        simp only [Act.put, List.setIfInBounds_toArray, List.set_cons_succ, List.set_cons_zero]
        apply EqGo.run
        focus
          kernel_rfl
        focus
          intro x K hK
          go_wp2_with fail
          first | exact hK x (Below.refl _ _) | exact Below.refl _ _
        simp only [Act.put, List.setIfInBounds_toArray, List.set_cons_succ, List.set_cons_zero]
        apply EqGo.run
        focus
          kernel_rfl
        focus
          intro x K hK
          go_wp2_with fail
          first | exact hK x (Below.refl _ _) | exact Below.refl _ _
        simp only [Act.put, List.setIfInBounds_toArray, List.set_cons_succ, List.set_cons_zero]
        apply EqGo.run
        focus
          kernel_rfl
        focus
          intro x K hK
          go_wp2_with fail
          first | exact hK x (Below.refl _ _) | exact Below.refl _ _
        simp only [Act.put, List.setIfInBounds_toArray, List.set_cons_succ, List.set_cons_zero]
        apply EqGo.run
        focus
          kernel_rfl
        focus
          intro x K hK
          go_wp2_with fail
          first | exact hK x (Below.refl _ _) | exact Below.refl _ _
        simp only [Act.put, List.setIfInBounds_toArray, List.set_cons_succ, List.set_cons_zero]
        apply EqGo.run
        focus
          kernel_rfl
        focus
          intro x K hK
          go_wp2_with fail
          first | exact hK x (Below.refl _ _) | exact Below.refl _ _
        simp only [Act.put, List.setIfInBounds_toArray, List.set_cons_succ, List.set_cons_zero]
        apply EqGo.run
        focus
          kernel_rfl
        focus
          intro x K hK
          go_wp2_with fail
          first | exact hK x (Below.refl _ _) | exact Below.refl _ _
        simp only [Act.put, List.setIfInBounds_toArray, List.set_cons_succ, List.set_cons_zero]
        apply EqGo.run
        focus
          kernel_rfl
        focus
          intro x K hK
          go_wp2_with fail
          first | exact hK x (Below.refl _ _) | exact Below.refl _ _
        simp only [Act.put, List.setIfInBounds_toArray, List.set_cons_succ, List.set_cons_zero]
        apply EqGo.run
        focus
          kernel_rfl
        focus
          intro x K hK
          go_wp2_with fail
          first | exact hK x (Below.refl _ _) | exact Below.refl _ _
        simp only [Act.put, List.setIfInBounds_toArray, List.set_cons_succ, List.set_cons_zero]
        apply EqGo.run
        focus
          kernel_rfl
        focus
          intro x K hK
          go_wp2_with fail
          refine (Hid.out HBY x.val).mono ?_
          rintro e x' ⟨rfl, hb'⟩
          exact hK ⟨x', x.below.trans (hb'.mono x.below.size)⟩ hb'
        simp only [Act.put, List.setIfInBounds_toArray, List.set_cons_succ, List.set_cons_zero]
        apply EqGo.run
        focus
          kernel_rfl
        focus
          intro x K hK
          go_wp2_with fail
          first | exact hK x (Below.refl _ _) | exact Below.refl _ _
        simp only [Act.put, List.setIfInBounds_toArray, List.set_cons_succ, List.set_cons_zero]
        apply EqGo.run
        focus
          kernel_rfl
        focus
          intro x K hK
          go_wp2_with fail
          first | exact hK x (Below.refl _ _) | exact Below.refl _ _
        simp only [Act.put, List.setIfInBounds_toArray, List.set_cons_succ, List.set_cons_zero]
        apply EqGo.run
        focus
          kernel_rfl
        focus
          intro x K hK
          go_wp2_with fail
          first | exact hK x (Below.refl _ _) | exact Below.refl _ _
        simp only [Act.put, List.setIfInBounds_toArray, List.set_cons_succ, List.set_cons_zero]
        apply EqGo.run
        focus
          kernel_rfl
        focus
          intro x K hK
          go_wp2_with fail
          first | exact hK x (Below.refl _ _) | exact Below.refl _ _
        simp only [Act.put, List.setIfInBounds_toArray, List.set_cons_succ, List.set_cons_zero]
        apply EqGo.run
        focus
          kernel_rfl
        focus
          intro x K hK
          go_wp2_with fail
          first | exact hK x (Below.refl _ _) | exact Below.refl _ _
        simp only [Act.put, List.setIfInBounds_toArray, List.set_cons_succ, List.set_cons_zero]
        intro x
        replace HP := Lib.hid (HP.out.below x.below)
        replace HQ := Lib.hid (HQ.out.below x.below)
        replace HR := Lib.hid (HR.out.below x.below)
        replace HB := Lib.hid (HB.out.trans (x.below.mono HB.out.size))
        clear l0 l1 l2 HBY
        generalize x.val = wx at *
        clear x
        have z0 := HP.out.cell 0
        have z1 := HP.out.cell 1
        have z2 := HP.out.cell 2
        have z3 := HP.out.cell 3
        have y0 := HQ.out.cell 0
        have y1 := HQ.out.cell 1
        have y2 := HQ.out.cell 2
        have y3 := HQ.out.cell 3
        have g0 := HQ.out.frozen 0
        have g1 := HQ.out.frozen 1
        have g2 := HQ.out.frozen 2
        have g3 := HQ.out.frozen 3
        have f0 := HP.out.frozen 0
        have f3 := HP.out.frozen 3
        have r0 := HR.out.c0
        have r1 := HR.out.c1
        have r2 := HR.out.c2
        simp only [List.getElem?_toArray, List.getElem?_cons_zero, List.getElem?_cons_succ] at z0 z1 z2 z3 y0 y1 y2 y3
      have hcs := HCS.out
      subst hcs
      have hcv := conv1 (110 : UInt8) wx
      have hPa := HP.out.alloc (.cells #[.int .u8 (((110 : UInt8) : UInt8).toNat : Int)] 5)
      have hQa := HQ.out.alloc (.cells #[.int .u8 (((110 : UInt8) : UInt8).toNat : Int)] 5)
      have hBa := HB.out.alloc HB.out.size (.cells #[.int .u8 (((110 : UInt8) : UInt8).toNat : Int)] 5)
      try simp only [show (((110 : UInt8) : UInt8).toNat : Int) = (110 : Int) from rfl] at hcv hPa hQa hBa
      clear z0 z1 z2 y0 y1 y2 y3 g0 g1 g2 g3 f0 f3 r0 r1 r2
      go_upto_region 7 with (fail)
      clear z3
      have z3 := hPa.cell 3
      have f3 := hPa.frozen 3
      simp only [List.getElem?_toArray, List.getElem?_cons_zero, List.getElem?_cons_succ] at z3
      go_upto_region 8 with (fail)
      clear z3 f3 hcv
      have hP2 := hPa.set 3 (.string { data := #[(110 : UInt8)] })
      have hQ2 := hQa.other (a := ⟨P, 3, none⟩) (fun e => hPQ e.symm) (.string { data := #[(110 : UInt8)] })
      have hB2 := hBa.setCell (p := ⟨P, 3, none⟩) hPb2 (.string { data := #[(110 : UInt8)] })
      simp only [List.setIfInBounds_toArray, List.set_cons_succ, List.set_cons_zero] at hP2
      generalize (wx.alloc (.cells #[.int .u8 (110 : Int)] 5)).setCell ⟨P, 3, none⟩ (.string { data := #[(110 : UInt8)] }) = wz at *
      clear hPa hQa hBa HP HQ HB
      have z0 := hP2.cell 0
      have z1 := hP2.cell 1
      have z2 := hP2.cell 2
      have z3 := hP2.cell 3
      have f3 := hP2.frozen 3
      have y0 := hQ2.cell 0
      have y1 := hQ2.cell 1
      have y2 := hQ2.cell 2
      have y3 := hQ2.cell 3
      have g0 := hQ2.frozen 0
      have g1 := hQ2.frozen 1
      have g2 := hQ2.frozen 2
      have g3 := hQ2.frozen 3
      simp only [List.getElem?_toArray, List.getElem?_cons_zero, List.getElem?_cons_succ] at z0 z1 z2 z3 y0 y1 y2 y3
      have HP := Lib.hid hP2
      have HQ := Lib.hid hQ2
      have HB := Lib.hid hB2
      clear hP2 hQ2 hB2
      go_wp2_with fail
      have hQf := (HQ.out.other (a := ⟨P, 3, none⟩) (fun e => hPQ e.symm) (.string { data := #[10] })).set4 (.int .i64 1) (.int .i64 i) (.int .i64 0) (.string { data := #[10] })
      have hbf := below_set4 (HB.out.setCell (p := ⟨P, 3, none⟩) hPb2 (.string { data := #[10] })) (Nat.le_refl _) (.int .i64 1) (.int .i64 i) (.int .i64 0) (.string { data := #[10] })
      have q0 := hQf.cell 0
      have q1 := hQf.cell 1
      have q2 := hQf.cell 2
      have q3 := hQf.cell 3
      simp only [List.getElem?_toArray, List.getElem?_cons_zero, List.getElem?_cons_succ] at q0 q1 q2 q3
      refine bodyPost_ret (v := .tuple #[.agg #[(.int .i64 1), .int .i64 i, (.int .i64 0), (.string { data := #[10] })], (.int .i64 2), .nilIface]) (by simp [results, Tryd.results71, go_sem, q0, q1, q2, q3]) rfl (And.intro ?_ hbf)
      rfl
    · by_cases h116 : d = 116
      · subst h116
        replace HBY := Lib.hid (show ∀ W, Calls Tryd.prog 45 #[.agg #[.string s], .int .i64 ((i + 1 : Nat) : Int)] W (Ret W (.tuple #[.int .u8 116, .bool true])) from HBY.out)
        go_enter Tryd.func71, Tryd.ntmps71
        go_upto_region 1 with (fail)
        rw [← HW1.out]
        apply wp_region_relA 23 [eqT _, eqT _, eqT _, eqT _, eqT _, eqT _, eqT _, eqT _, eqT _, eqT _, eqT _, eqT _, eqT _, eqT _, eqT _, eqT _, eqT _, eqT _, eqT _, eqT _, eqT _, eqT _, newT 48 #[.int .i64 0, .int .i64 0, .int .i64 0, .string { data := #[] }] w1.heap.size] (by kernel_rfl) (by kernel_rfl) (by kernel_rfl) rfl
        focus
          refine ⟨?_, ?_⟩
          focus
            unfold opGoal
            rw [if_pos (by kernel_rfl)]
            intro x hb hd K hk
            clear hd
            go_wp2_with fail
            exact hk _ _ rfl trivial (Below.refl _ _)
          rintro _ rfl
          simp only [Act.put, List.setIfInBounds_toArray, List.set_cons_succ, List.set_cons_zero]
          refine ⟨?_, ?_⟩
          focus
            unfold opGoal
            rw [if_pos (by kernel_rfl)]
            intro x hb hd K hk
            clear hd
            go_wp2_with fail
            exact hk _ _ rfl trivial (Below.refl _ _)
          rintro _ rfl
          simp only [Act.put, List.setIfInBounds_toArray, List.set_cons_succ, List.set_cons_zero]
          refine ⟨?_, ?_⟩
          focus
            unfold opGoal
            rw [if_pos (by kernel_rfl)]
            intro x hb hd K hk
            clear hd
            go_wp2_with fail
            exact hk _ _ rfl trivial (Below.refl _ _)
          rintro _ rfl
          simp only [Act.put, List.setIfInBounds_toArray, List.set_cons_succ, List.set_cons_zero]
          refine ⟨?_, ?_⟩
          focus
            unfold opGoal
            rw [if_pos (by kernel_rfl)]
            intro x hb hd K hk
            clear hd
            have l0 := cell_keep hb r1
            go_wp2_with fail
            exact hk _ _ rfl trivial (Below.refl _ _)
          rintro _ rfl
          simp only [Act.put, List.setIfInBounds_toArray, List.set_cons_succ, List.set_cons_zero]
          refine ⟨?_, ?_⟩
          focus
            unfold opGoal
            rw [if_pos (by kernel_rfl)]
            intro x hb hd K hk
            clear hd
            go_wp2_with fail
            exact hk _ _ rfl trivial (Below.refl _ _)
          rintro _ rfl
          simp only [Act.put, List.setIfInBounds_toArray, List.set_cons_succ, List.set_cons_zero]
          refine ⟨?_, ?_⟩
          focus
            unfold opGoal
            rw [if_pos (by kernel_rfl)]
            intro x hb hd K hk
            clear hd
            go_wp2_with fail
            exact hk _ _ rfl trivial (Below.refl _ _)
          rintro _ rfl
          simp only [Act.put, List.setIfInBounds_toArray, List.set_cons_succ, List.set_cons_zero]
          refine ⟨?_, ?_⟩
          focus
            unfold opGoal
            rw [if_pos (by kernel_rfl)]
            intro x hb hd K hk
            clear hd
            go_wp2_with fail
            exact hk _ _ rfl trivial (Below.refl _ _)
          rintro _ rfl
          simp only [Act.put, List.setIfInBounds_toArray, List.set_cons_succ, List.set_cons_zero]
          refine ⟨?_, ?_⟩
          focus
            unfold opGoal
            rw [if_pos (by kernel_rfl)]
            intro x hb hd K hk
            clear hd
            have l0 := cell_keep hb r0
            go_wp2_with fail
            exact hk _ _ rfl trivial (Below.refl _ _)
          rintro _ rfl
          simp only [Act.put, List.setIfInBounds_toArray, List.set_cons_succ, List.set_cons_zero]
          refine ⟨?_, ?_⟩
          focus
            unfold opGoal
            rw [if_pos (by kernel_rfl)]
            intro x hb hd K hk
            clear hd
            go_wp2_with fail
            exact hk _ _ rfl trivial (Below.refl _ _)
          rintro _ rfl
          simp only [Act.put, List.setIfInBounds_toArray, List.set_cons_succ, List.set_cons_zero]
          refine ⟨?_, ?_⟩
          focus
            unfold opGoal
            rw [if_pos (by kernel_rfl)]
            intro x hb hd K hk
            clear hd
            go_wp2_with fail
            exact hk _ _ rfl trivial (Below.refl _ _)
          rintro _ rfl
          simp only [Act.put, List.setIfInBounds_toArray, List.set_cons_succ, List.set_cons_zero]
          refine ⟨?_, ?_⟩
          focus
            unfold opGoal
            rw [if_pos (by kernel_rfl)]
            intro x hb hd K hk
            clear hd
            have l0 := cell_keep hb r2
            go_wp2_with fail
            exact hk _ _ rfl trivial (Below.refl _ _)
          rintro _ rfl
          simp only [Act.put, List.setIfInBounds_toArray, List.set_cons_succ, List.set_cons_zero]
          refine ⟨?_, ?_⟩
          focus
            unfold opGoal
            rw [if_pos (by kernel_rfl)]
            intro x hb hd K hk
            clear hd
            go_wp2_with fail
            exact hk _ _ rfl trivial (Below.refl _ _)
          rintro _ rfl
          simp only [Act.put, List.setIfInBounds_toArray, List.set_cons_succ, List.set_cons_zero]
          refine ⟨?_, ?_⟩
          focus
            unfold opGoal
            rw [if_pos (by kernel_rfl)]
            intro x hb hd K hk
            clear hd
            go_wp2_with fail
            exact hk _ _ rfl trivial (Below.refl _ _)
          rintro _ rfl
          simp only [Act.put, List.setIfInBounds_toArray, List.set_cons_succ, List.set_cons_zero]
          refine ⟨?_, ?_⟩
          focus
            unfold opGoal
            rw [if_pos (by kernel_rfl)]
            intro x hb hd K hk
            clear hd
            go_wp2_with fail
            exact hk _ _ rfl trivial (Below.refl _ _)
          rintro _ rfl
          simp only [Act.put, List.setIfInBounds_toArray, List.set_cons_succ, List.set_cons_zero]
          refine ⟨?_, ?_⟩
          focus
            unfold opGoal
            rw [if_pos (by kernel_rfl)]
            intro x hb hd K hk
            clear hd
            have l0 := cell_keep hb r1
            go_wp2_with fail
            exact hk _ _ rfl trivial (Below.refl _ _)
          rintro _ rfl
          simp only [Act.put, List.setIfInBounds_toArray, List.set_cons_succ, List.set_cons_zero]
          refine ⟨?_, ?_⟩
          focus
            unfold opGoal
            rw [if_pos (by kernel_rfl)]
            intro x hb hd K hk
            clear hd
            go_wp2_with fail
            exact hk _ _ rfl trivial (Below.refl _ _)
          rintro _ rfl
          simp only [Act.put, List.setIfInBounds_toArray, List.set_cons_succ, List.set_cons_zero]
          refine ⟨?_, ?_⟩
          focus
            unfold opGoal
            rw [if_pos (by kernel_rfl)]
            intro x hb hd K hk
            clear hd
            go_wp2_with fail
            exact hk _ _ rfl trivial (Below.refl _ _)
          rintro _ rfl
          simp only [Act.put, List.setIfInBounds_toArray, List.set_cons_succ, List.set_cons_zero]
          refine ⟨?_, ?_⟩
          focus
            unfold opGoal
            rw [if_pos (by kernel_rfl)]
            intro x hb hd K hk
            clear hd
            go_wp2_with fail
            exact hk _ _ rfl trivial (Below.refl _ _)
          rintro _ rfl
          simp only [Act.put, List.setIfInBounds_toArray, List.set_cons_succ, List.set_cons_zero]
          refine ⟨?_, ?_⟩
          focus
            unfold opGoal
            rw [if_pos (by kernel_rfl)]
            intro x hb hd K hk
            clear hd
            have l0 := cell_keep hb r1
            go_wp2_with fail
            exact hk _ _ rfl trivial (Below.refl _ _)
          rintro _ rfl
          simp only [Act.put, List.setIfInBounds_toArray, List.set_cons_succ, List.set_cons_zero]
          refine ⟨?_, ?_⟩
          focus
            unfold opGoal
            rw [if_pos (by kernel_rfl)]
            intro x hb hd K hk
            clear hd
            go_wp2_with fail
            exact hk _ _ rfl trivial (Below.refl _ _)
          rintro _ rfl
          simp only [Act.put, List.setIfInBounds_toArray, List.set_cons_succ, List.set_cons_zero]
          refine ⟨?_, ?_⟩
          focus
            unfold opGoal
            rw [if_pos (by kernel_rfl)]
            intro x hb hd K hk
            clear hd
            go_wp2_with fail
            refine (Hid.out HSL x).mono ?_
            rintro e x' ⟨rfl, hb'⟩
            exact hk _ _ rfl trivial hb'
          rintro _ rfl
          simp only [Act.put, List.setIfInBounds_toArray, List.set_cons_succ, List.set_cons_zero]
          refine ⟨?_, ?_⟩
          focus
            unfold opGoal
            rw [if_pos (by kernel_rfl)]
            intro x hb hd K hk
            clear hd
            go_wp2_with fail
            exact hk _ _ rfl trivial (Below.refl _ _)
          rintro _ rfl
          simp only [Act.put, List.setIfInBounds_toArray, List.set_cons_succ, List.set_cons_zero]
          refine ⟨?_, ?_⟩
          focus
            unfold opGoal
            rw [if_pos (by kernel_rfl)]
            intro x hb hd K hk
            clear hd
            go_wp2_with fail
            refine hk _ _ ⟨_, rfl⟩ ?_ ((Below.refl _ _).alloc (Nat.le_refl _) _)
            intro g hg
            injection hg with hg
            injection hg with hg
            injection hg with hg
            subst hg
            exact ⟨Blk.new x _ _, hb.size⟩
          rintro _ ⟨P, rfl⟩
          simp only [Act.put, List.setIfInBounds_toArray, List.set_cons_succ, List.set_cons_zero]
          intro x hbx hf
          simp only [List.drop_succ_cons, List.drop_zero]
          obtain ⟨hPx, hPb⟩ := hf 22 (newT 48 #[.int .i64 0, .int .i64 0, .int .i64 0, .string { data := #[] }] w1.heap.size) (.pointer (some ⟨P, 0, none⟩)) (by kernel_rfl) (by kernel_rfl) P rfl
          clear hf
          have m0 := hPx.cell 0
          have m1 := hPx.cell 1
          have m2 := hPx.cell 2
          have m3 := hPx.cell 3
          have f0 := hPx.frozen 0
          have f1 := hPx.frozen 1
          have f2 := hPx.frozen 2
          have f3 := hPx.frozen 3
          simp only [List.getElem?_toArray, List.getElem?_cons_zero, List.getElem?_cons_succ] at m0 m1 m2 m3
          have HPX := Lib.hid hPx
          clear hPx
          have hPQ : P ≠ w.heap.size := by rw [HZ1.out] at hPb; omega
          have hPb2 : w.heap.size ≤ P := by rw [HZ1.out] at hPb; omega
          have HXB := Lib.hid hbx
          clear hbx r0 r1 r2 HSL
          go_wp2_with fail
          have hP := HPX.out.set4 (.int .i64 1) (.int .i64 i) (.int .i64 0) (.string cs)
          have hQ := (But.set4 P x (.int .i64 1) (.int .i64 i) (.int .i64 0) (.string cs)).blk (HQ1.out.below HXB.out) (fun e => hPQ e.symm)
          have hR := (HR1.out.below HXB.out).set4 HPX.out (.int .i64 1) (.int .i64 i) (.int .i64 0) (.string cs)
          have hbw := below_set4 (HB1.out.trans (HXB.out.mono HB1.out.size)) hPb2 (.int .i64 1) (.int .i64 i) (.int .i64 0) (.string cs)
          generalize (((x.setCell ⟨P, 0, none⟩ (.int .i64 1)).setCell ⟨P, 1, none⟩ (.int .i64 i)).setCell ⟨P, 2, none⟩ (.int .i64 0)).setCell ⟨P, 3, none⟩ (.string cs) = wy at *
          clear m0 m1 m2 m3 f0 f1 f2 f3 HPX HXB HQ1 HR1 HB1 HW1 HZ1 hPb x w1
          have l0 := Later.cell hR.c0
          have l1 := Later.cell hR.c1
          have l2 := Later.cell hR.c2
          have HP := Lib.hid hP
          have HQ := Lib.hid hQ
          have HR := Lib.hid hR
          have HB := Lib.hid hbw
          clear hP hQ hR hbw
          refine wp_region_eq (by kernel_rfl) (by kernel_rfl) ?_
          apply EqGo.run
          focus
            kernel_rfl
          focus
            intro x K hK
            go_wp2_with fail
            first | exact hK x (Below.refl _ _) | exact Below.refl _ _
          simp only [Act.put, List.setIfInBounds_toArray, List.set_cons_succ, List.set_cons_zero]
          apply EqGo.run
          focus
            kernel_rfl
          focus
            intro x K hK
            go_wp2_with fail
            first | exact hK x (Below.refl _ _) | exact Below.refl _ _
          simp only [Act.put, List.setIfInBounds_toArray, List.set_cons_succ, List.set_cons_zero]
          apply EqGo.run
          focus
            kernel_rfl
          focus
            intro x K hK
            go_wp2_with fail
            first | exact hK x (Below.refl _ _) | exact Below.refl _ _
          simp only [Act.put, List.setIfInBounds_toArray, List.set_cons_succ, List.set_cons_zero]
          apply EqGo.run
          focus
            kernel_rfl
          focus
            intro x K hK
            go_wp2_with fail
            first | exact hK x (Below.refl _ _) | exact Below.refl _ _
          simp only [Act.put, List.setIfInBounds_toArray, List.set_cons_succ, List.set_cons_zero]
          apply EqGo.run
          focus
            kernel_rfl
          focus
            intro x K hK
            go_wp2_with fail
            first | exact hK x (Below.refl _ _) | exact Below.refl _ _
          simp only [Act.put, List.setIfInBounds_toArray, List.set_cons_succ, List.set_cons_zero]
          apply EqGo.run
          focus
            kernel_rfl
          focus
            intro x K hK
            go_wp2_with fail
            first | exact hK x (Below.refl _ _) | exact Below.refl _ _
          simp only [Act.put, List.setIfInBounds_toArray, List.set_cons_succ, List.set_cons_zero]
          apply EqGo.run
          focus
            kernel_rfl
          focus
            intro x K hK
            go_wp2_with fail
            first | exact hK x (Below.refl _ _) | exact Below.refl _ _
          simp only [Act.put, List.setIfInBounds_toArray, List.set_cons_succ, List.set_cons_zero]
          apply EqGo.run
          focus
            kernel_rfl
          focus
            intro x K hK
            go_wp2_with fail
            first | exact hK x (Below.refl _ _) | exact Below.refl _ _
          simp only [Act.put, List.setIfInBounds_toArray, List.set_cons_succ, List.set_cons_zero]
          apply EqGo.run
          focus
            kernel_rfl
          focus
            intro x K hK
            go_wp2_with fail
            first | exact hK x (Below.refl _ _) | exact Below.refl _ _
          simp only [Act.put, List.setIfInBounds_toArray, List.set_cons_succ, List.set_cons_zero]
          apply EqGo.run
          focus
            kernel_rfl
          focus
            intro x K hK
            go_wp2_with fail
            first | exact hK x (Below.refl _ _) | exact Below.refl _ _
          simp only [Act.put, List.setIfInBounds_toArray, List.set_cons_succ, List.set_cons_zero]
          apply EqGo.run
          focus
            kernel_rfl
          focus
            intro x K hK
            go_wp2_with fail
            first | exact hK x (Below.refl _ _) | exact Below.refl _ _
          simp only [Act.put, List.setIfInBounds_toArray, List.set_cons_succ, List.set_cons_zero]
          apply EqGo.run
          focus
            kernel_rfl
          focus
            intro x K hK
            go_wp2_with fail
            first | exact hK x (Below.refl _ _) | exact Below.refl _ _
          simp only [Act.put, List.setIfInBounds_toArray, List.set_cons_succ, List.set_cons_zero]
          apply EqGo.run
          focus
            kernel_rfl
          focus
            intro x K hK
            go_wp2_with fail
            refine (Hid.out HBY x.val).mono ?_
            rintro e x' ⟨rfl, hb'⟩
            exact hK ⟨x', x.below.trans (hb'.mono x.below.size)⟩ hb'
          simp only [Act.put, List.setIfInBounds_toArray, List.set_cons_succ, List.set_cons_zero]
          apply EqGo.run
          focus
            kernel_rfl
          focus
            intro x K hK
            go_wp2_with fail
            first | exact hK x (Below.refl _ _) | exact Below.refl _ _
          simp only [Act.put, List.setIfInBounds_toArray, List.set_cons_succ, List.set_cons_zero]
          apply EqGo.run
          focus
            kernel_rfl
          focus
            intro x K hK
            go_wp2_with fail
            first | exact hK x (Below.refl _ _) | exact Below.refl _ _
          simp only [Act.put, List.setIfInBounds_toArray, List.set_cons_succ, List.set_cons_zero]
          apply EqGo.run
          focus
            kernel_rfl
          focus
            intro x K hK
            go_wp2_with fail
            first | exact hK x (Below.refl _ _) | exact Below.refl _ _
          simp only [Act.put, List.setIfInBounds_toArray, List.set_cons_succ, List.set_cons_zero]
          apply EqGo.run
          focus
            kernel_rfl
          focus
            intro x K hK
            go_wp2_with fail
            first | exact hK x (Below.refl _ _) | exact Below.refl _ _
          simp only [Act.put, List.setIfInBounds_toArray, List.set_cons_succ, List.set_cons_zero]
          apply EqGo.run
          focus
            kernel_rfl
          focus
            intro x K hK
            go_wp2_with fail
            first | exact hK x (Below.refl _ _) | exact Below.refl _ _
          simp only [Act.put, List.setIfInBounds_toArray, List.set_cons_succ, List.set_cons_zero]
          intro x
          replace HP := Lib.hid (HP.out.below x.below)
          replace HQ := Lib.hid (HQ.out.below x.below)
          replace HR := Lib.hid (HR.out.below x.below)
          replace HB := Lib.hid (HB.out.trans (x.below.mono HB.out.size))
          clear l0 l1 l2 HBY
          generalize x.val = wx at *
          clear x
          have z0 := HP.out.cell 0
          have z1 := HP.out.cell 1
          have z2 := HP.out.cell 2
          have z3 := HP.out.cell 3
          have y0 := HQ.out.cell 0
          have y1 := HQ.out.cell 1
          have y2 := HQ.out.cell 2
          have y3 := HQ.out.cell 3
          have g0 := HQ.out.frozen 0
          have g1 := HQ.out.frozen 1
          have g2 := HQ.out.frozen 2
          have g3 := HQ.out.frozen 3
          have f0 := HP.out.frozen 0
          have f3 := HP.out.frozen 3
          have r0 := HR.out.c0
          have r1 := HR.out.c1
          have r2 := HR.out.c2
          simp only [List.getElem?_toArray, List.getElem?_cons_zero, List.getElem?_cons_succ] at z0 z1 z2 z3 y0 y1 y2 y3
        have hcs := HCS.out
        subst hcs
        have hcv := conv1 (116 : UInt8) wx
        have hPa := HP.out.alloc (.cells #[.int .u8 (((116 : UInt8) : UInt8).toNat : Int)] 5)
        have hQa := HQ.out.alloc (.cells #[.int .u8 (((116 : UInt8) : UInt8).toNat : Int)] 5)
        have hBa := HB.out.alloc HB.out.size (.cells #[.int .u8 (((116 : UInt8) : UInt8).toNat : Int)] 5)
        try simp only [show (((116 : UInt8) : UInt8).toNat : Int) = (116 : Int) from rfl] at hcv hPa hQa hBa
        clear z0 z1 z2 y0 y1 y2 y3 g0 g1 g2 g3 f0 f3 r0 r1 r2
        go_upto_region 7 with (fail)
        clear z3
        have z3 := hPa.cell 3
        have f3 := hPa.frozen 3
        simp only [List.getElem?_toArray, List.getElem?_cons_zero, List.getElem?_cons_succ] at z3
        go_upto_region 8 with (fail)
        clear z3 f3 hcv
        have hP2 := hPa.set 3 (.string { data := #[(116 : UInt8)] })
        have hQ2 := hQa.other (a := ⟨P, 3, none⟩) (fun e => hPQ e.symm) (.string { data := #[(116 : UInt8)] })
        have hB2 := hBa.setCell (p := ⟨P, 3, none⟩) hPb2 (.string { data := #[(116 : UInt8)] })
        simp only [List.setIfInBounds_toArray, List.set_cons_succ, List.set_cons_zero] at hP2
        generalize (wx.alloc (.cells #[.int .u8 (116 : Int)] 5)).setCell ⟨P, 3, none⟩ (.string { data := #[(116 : UInt8)] }) = wz at *
        clear hPa hQa hBa HP HQ HB
        have z0 := hP2.cell 0
        have z1 := hP2.cell 1
        have z2 := hP2.cell 2
        have z3 := hP2.cell 3
        have f3 := hP2.frozen 3
        have y0 := hQ2.cell 0
        have y1 := hQ2.cell 1
        have y2 := hQ2.cell 2
        have y3 := hQ2.cell 3
        have g0 := hQ2.frozen 0
        have g1 := hQ2.frozen 1
        have g2 := hQ2.frozen 2
        have g3 := hQ2.frozen 3
        simp only [List.getElem?_toArray, List.getElem?_cons_zero, List.getElem?_cons_succ] at z0 z1 z2 z3 y0 y1 y2 y3
        have HP := Lib.hid hP2
        have HQ := Lib.hid hQ2
        have HB := Lib.hid hB2
        clear hP2 hQ2 hB2
        go_wp2_with fail
        have hQf := (HQ.out.other (a := ⟨P, 3, none⟩) (fun e => hPQ e.symm) (.string { data := #[9] })).set4 (.int .i64 1) (.int .i64 i) (.int .i64 0) (.string { data := #[9] })
        have hbf := below_set4 (HB.out.setCell (p := ⟨P, 3, none⟩) hPb2 (.string { data := #[9] })) (Nat.le_refl _) (.int .i64 1) (.int .i64 i) (.int .i64 0) (.string { data := #[9] })
        have q0 := hQf.cell 0
        have q1 := hQf.cell 1
        have q2 := hQf.cell 2
        have q3 := hQf.cell 3
        simp only [List.getElem?_toArray, List.getElem?_cons_zero, List.getElem?_cons_succ] at q0 q1 q2 q3
        refine bodyPost_ret (v := .tuple #[.agg #[(.int .i64 1), .int .i64 i, (.int .i64 0), (.string { data := #[9] })], (.int .i64 2), .nilIface]) (by simp [results, Tryd.results71, go_sem, q0, q1, q2, q3]) rfl (And.intro ?_ hbf)
        rfl
      · have n1 := int_ne (toNat_ne (d := 110) (by decide) h110)
        have n2 := int_ne (toNat_ne (d := 116) (by decide) h116)
        have hesc : escT d = d := by unfold escT; rw [if_neg h110, if_neg h116]
        rw [hesc]
        clear hesc
        go_enter Tryd.func71, Tryd.ntmps71
        go_upto_region 1 with (fail)
        rw [← HW1.out]
        apply wp_region_relA 23 [eqT _, eqT _, eqT _, eqT _, eqT _, eqT _, eqT _, eqT _, eqT _, eqT _, eqT _, eqT _, eqT _, eqT _, eqT _, eqT _, eqT _, eqT _, eqT _, eqT _, eqT _, eqT _, newT 48 #[.int .i64 0, .int .i64 0, .int .i64 0, .string { data := #[] }] w1.heap.size] (by kernel_rfl) (by kernel_rfl) (by kernel_rfl) rfl
        focus
          refine ⟨?_, ?_⟩
          focus
            unfold opGoal
            rw [if_pos (by kernel_rfl)]
            intro x hb hd K hk
            clear hd
            go_wp2_with fail
            exact hk _ _ rfl trivial (Below.refl _ _)
          rintro _ rfl
          simp only [Act.put, List.setIfInBounds_toArray, List.set_cons_succ, List.set_cons_zero]
          refine ⟨?_, ?_⟩
          focus
            unfold opGoal
            rw [if_pos (by kernel_rfl)]
            intro x hb hd K hk
            clear hd
            go_wp2_with fail
            exact hk _ _ rfl trivial (Below.refl _ _)
          rintro _ rfl
          simp only [Act.put, List.setIfInBounds_toArray, List.set_cons_succ, List.set_cons_zero]
          refine ⟨?_, ?_⟩
          focus
            unfold opGoal
            rw [if_pos (by kernel_rfl)]
            intro x hb hd K hk
            clear hd
            go_wp2_with fail
            exact hk _ _ rfl trivial (Below.refl _ _)
          rintro _ rfl
          simp only [Act.put, List.setIfInBounds_toArray, List.set_cons_succ, List.set_cons_zero]
          refine ⟨?_, ?_⟩
          focus
            unfold opGoal
            rw [if_pos (by kernel_rfl)]
            intro x hb hd K hk
            clear hd
            have l0 := cell_keep hb r1
            go_wp2_with fail
            exact hk _ _ rfl trivial (Below.refl _ _)
          rintro _ rfl
          simp only [Act.put, List.setIfInBounds_toArray, List.set_cons_succ, List.set_cons_zero]
          refine ⟨?_, ?_⟩
          focus
            unfold opGoal
            rw [if_pos (by kernel_rfl)]
            intro x hb hd K hk
            clear hd
            go_wp2_with fail
            exact hk _ _ rfl trivial (Below.refl _ _)
          rintro _ rfl
          simp only [Act.put, List.setIfInBounds_toArray, List.set_cons_succ, List.set_cons_zero]
          refine ⟨?_, ?_⟩
          focus
            unfold opGoal
            rw [if_pos (by kernel_rfl)]
            intro x hb hd K hk
            clear hd
            go_wp2_with fail
            exact hk _ _ rfl trivial (Below.refl _ _)
          rintro _ rfl
          simp only [Act.put, List.setIfInBounds_toArray, List.set_cons_succ, List.set_cons_zero]
          refine ⟨?_, ?_⟩
          focus
            unfold opGoal
            rw [if_pos (by kernel_rfl)]
            intro x hb hd K hk
            clear hd
            go_wp2_with fail
            exact hk _ _ rfl trivial (Below.refl _ _)
          rintro _ rfl
          simp only [Act.put, List.setIfInBounds_toArray, List.set_cons_succ, List.set_cons_zero]
          refine ⟨?_, ?_⟩
          focus
            unfold opGoal
            rw [if_pos (by kernel_rfl)]
            intro x hb hd K hk
            clear hd
            have l0 := cell_keep hb r0
            go_wp2_with fail
            exact hk _ _ rfl trivial (Below.refl _ _)
          rintro _ rfl
          simp only [Act.put, List.setIfInBounds_toArray, List.set_cons_succ, List.set_cons_zero]
          refine ⟨?_, ?_⟩
          focus
            unfold opGoal
            rw [if_pos (by kernel_rfl)]
            intro x hb hd K hk
            clear hd
            go_wp2_with fail
            exact hk _ _ rfl trivial (Below.refl _ _)
          rintro _ rfl
          simp only [Act.put, List.setIfInBounds_toArray, List.set_cons_succ, List.set_cons_zero]
          refine ⟨?_, ?_⟩
          focus
            unfold opGoal
            rw [if_pos (by kernel_rfl)]
            intro x hb hd K hk
            clear hd
            go_wp2_with fail
            exact hk _ _ rfl trivial (Below.refl _ _)
          rintro _ rfl
          simp only [Act.put, List.setIfInBounds_toArray, List.set_cons_succ, List.set_cons_zero]
          refine ⟨?_, ?_⟩
          focus
            unfold opGoal
            rw [if_pos (by kernel_rfl)]
            intro x hb hd K hk
            clear hd
            have l0 := cell_keep hb r2
            go_wp2_with fail
            exact hk _ _ rfl trivial (Below.refl _ _)
          rintro _ rfl
          simp only [Act.put, List.setIfInBounds_toArray, List.set_cons_succ, List.set_cons_zero]
          refine ⟨?_, ?_⟩
          focus
            unfold opGoal
            rw [if_pos (by kernel_rfl)]
            intro x hb hd K hk
            clear hd
            go_wp2_with fail
            exact hk _ _ rfl trivial (Below.refl _ _)
          rintro _ rfl
          simp only [Act.put, List.setIfInBounds_toArray, List.set_cons_succ, List.set_cons_zero]
          refine ⟨?_, ?_⟩
          focus
            unfold opGoal
            rw [if_pos (by kernel_rfl)]
            intro x hb hd K hk
            clear hd
            go_wp2_with fail
            exact hk _ _ rfl trivial (Below.refl _ _)
          rintro _ rfl
          simp only [Act.put, List.setIfInBounds_toArray, List.set_cons_succ, List.set_cons_zero]
          refine ⟨?_, ?_⟩
          focus
            unfold opGoal
            rw [if_pos (by kernel_rfl)]
            intro x hb hd K hk
            clear hd
            go_wp2_with fail
            exact hk _ _ rfl trivial (Below.refl _ _)
          rintro _ rfl
          simp only [Act.put, List.setIfInBounds_toArray, List.set_cons_succ, List.set_cons_zero]
          refine ⟨?_, ?_⟩
          focus
            unfold opGoal
            rw [if_pos (by kernel_rfl)]
            intro x hb hd K hk
            clear hd
            have l0 := cell_keep hb r1
            go_wp2_with fail
            exact hk _ _ rfl trivial (Below.refl _ _)
          rintro _ rfl
          simp only [Act.put, List.setIfInBounds_toArray, List.set_cons_succ, List.set_cons_zero]
          refine ⟨?_, ?_⟩
          focus
            unfold opGoal
            rw [if_pos (by kernel_rfl)]
            intro x hb hd K hk
            clear hd
            go_wp2_with fail
            exact hk _ _ rfl trivial (Below.refl _ _)
          rintro _ rfl
          simp only [Act.put, List.setIfInBounds_toArray, List.set_cons_succ, List.set_cons_zero]
          refine ⟨?_, ?_⟩
          focus
            unfold opGoal
            rw [if_pos (by kernel_rfl)]
            intro x hb hd K hk
            clear hd
            go_wp2_with fail
            exact hk _ _ rfl trivial (Below.refl _ _)
          rintro _ rfl
          simp only [Act.put, List.setIfInBounds_toArray, List.set_cons_succ, List.set_cons_zero]
          refine ⟨?_, ?_⟩
          focus
            unfold opGoal
            rw [if_pos (by kernel_rfl)]
            intro x hb hd K hk
            clear hd
            go_wp2_with fail
            exact hk _ _ rfl trivial (Below.refl _ _)
          rintro _ rfl
          simp only [Act.put, List.setIfInBounds_toArray, List.set_cons_succ, List.set_cons_zero]
          refine ⟨?_, ?_⟩
          focus
            unfold opGoal
            rw [if_pos (by kernel_rfl)]
            intro x hb hd K hk
            clear hd
            have l0 := cell_keep hb r1
            go_wp2_with fail
            exact hk _ _ rfl trivial (Below.refl _ _)
          rintro _ rfl
          simp only [Act.put, List.setIfInBounds_toArray, List.set_cons_succ, List.set_cons_zero]
          refine ⟨?_, ?_⟩
          focus
            unfold opGoal
            rw [if_pos (by kernel_rfl)]
            intro x hb hd K hk
            clear hd
            go_wp2_with fail
            exact hk _ _ rfl trivial (Below.refl _ _)
          rintro _ rfl
          simp only [Act.put, List.setIfInBounds_toArray, List.set_cons_succ, List.set_cons_zero]
          refine ⟨?_, ?_⟩
          focus
            unfold opGoal
            rw [if_pos (by kernel_rfl)]
            intro x hb hd K hk
            clear hd
            go_wp2_with fail
            refine (Hid.out HSL x).mono ?_
            rintro e x' ⟨rfl, hb'⟩
            exact hk _ _ rfl trivial hb'
          rintro _ rfl
          simp only [Act.put, List.setIfInBounds_toArray, List.set_cons_succ, List.set_cons_zero]
          refine ⟨?_, ?_⟩
          focus
            unfold opGoal
            rw [if_pos (by kernel_rfl)]
            intro x hb hd K hk
            clear hd
            go_wp2_with fail
            exact hk _ _ rfl trivial (Below.refl _ _)
          rintro _ rfl
          simp only [Act.put, List.setIfInBounds_toArray, List.set_cons_succ, List.set_cons_zero]
          refine ⟨?_, ?_⟩
          focus
            unfold opGoal
            rw [if_pos (by kernel_rfl)]
            intro x hb hd K hk
            clear hd
            go_wp2_with fail
            refine hk _ _ ⟨_, rfl⟩ ?_ ((Below.refl _ _).alloc (Nat.le_refl _) _)
            intro g hg
            injection hg with hg
            injection hg with hg
            injection hg with hg
            subst hg
            exact ⟨Blk.new x _ _, hb.size⟩
          rintro _ ⟨P, rfl⟩
          simp only [Act.put, List.setIfInBounds_toArray, List.set_cons_succ, List.set_cons_zero]
          intro x hbx hf
          simp only [List.drop_succ_cons, List.drop_zero]
          obtain ⟨hPx, hPb⟩ := hf 22 (newT 48 #[.int .i64 0, .int .i64 0, .int .i64 0, .string { data := #[] }] w1.heap.size) (.pointer (some ⟨P, 0, none⟩)) (by kernel_rfl) (by kernel_rfl) P rfl
          clear hf
          have m0 := hPx.cell 0
          have m1 := hPx.cell 1
          have m2 := hPx.cell 2
          have m3 := hPx.cell 3
          have f0 := hPx.frozen 0
          have f1 := hPx.frozen 1
          have f2 := hPx.frozen 2
          have f3 := hPx.frozen 3
          simp only [List.getElem?_toArray, List.getElem?_cons_zero, List.getElem?_cons_succ] at m0 m1 m2 m3
          have HPX := Lib.hid hPx
          clear hPx
          have hPQ : P ≠ w.heap.size := by rw [HZ1.out] at hPb; omega
          have hPb2 : w.heap.size ≤ P := by rw [HZ1.out] at hPb; omega
          have HXB := Lib.hid hbx
          clear hbx r0 r1 r2 HSL
          go_wp2_with fail
          have hP := HPX.out.set4 (.int .i64 1) (.int .i64 i) (.int .i64 0) (.string cs)
          have hQ := (But.set4 P x (.int .i64 1) (.int .i64 i) (.int .i64 0) (.string cs)).blk (HQ1.out.below HXB.out) (fun e => hPQ e.symm)
          have hR := (HR1.out.below HXB.out).set4 HPX.out (.int .i64 1) (.int .i64 i) (.int .i64 0) (.string cs)
          have hbw := below_set4 (HB1.out.trans (HXB.out.mono HB1.out.size)) hPb2 (.int .i64 1) (.int .i64 i) (.int .i64 0) (.string cs)
          generalize (((x.setCell ⟨P, 0, none⟩ (.int .i64 1)).setCell ⟨P, 1, none⟩ (.int .i64 i)).setCell ⟨P, 2, none⟩ (.int .i64 0)).setCell ⟨P, 3, none⟩ (.string cs) = wy at *
          clear m0 m1 m2 m3 f0 f1 f2 f3 HPX HXB HQ1 HR1 HB1 HW1 HZ1 hPb x w1
          have l0 := Later.cell hR.c0
          have l1 := Later.cell hR.c1
          have l2 := Later.cell hR.c2
          have HP := Lib.hid hP
          have HQ := Lib.hid hQ
          have HR := Lib.hid hR
          have HB := Lib.hid hbw
          clear hP hQ hR hbw
          refine wp_region_eq (by kernel_rfl) (by kernel_rfl) ?_
          apply EqGo.run
          focus
            kernel_rfl
          focus
            intro x K hK
            go_wp2_with fail
            first | exact hK x (Below.refl _ _) | exact Below.refl _ _
          simp only [Act.put, List.setIfInBounds_toArray, List.set_cons_succ, List.set_cons_zero]
          apply EqGo.run
          focus
            kernel_rfl
          focus
            intro x K hK
            go_wp2_with fail
            first | exact hK x (Below.refl _ _) | exact Below.refl _ _
          simp only [Act.put, List.setIfInBounds_toArray, List.set_cons_succ, List.set_cons_zero]
          apply EqGo.run
          focus
            kernel_rfl
          focus
            intro x K hK
            go_wp2_with fail
            first | exact hK x (Below.refl _ _) | exact Below.refl _ _
          simp only [Act.put, List.setIfInBounds_toArray, List.set_cons_succ, List.set_cons_zero]
          apply EqGo.run
          focus
            kernel_rfl
          focus
            intro x K hK
            go_wp2_with fail
            first | exact hK x (Below.refl _ _) | exact Below.refl _ _
          simp only [Act.put, List.setIfInBounds_toArray, List.set_cons_succ, List.set_cons_zero]
          apply EqGo.run
          focus
            kernel_rfl
          focus
            intro x K hK
            go_wp2_with fail
            first | exact hK x (Below.refl _ _) | exact Below.refl _ _
          simp only [Act.put, List.setIfInBounds_toArray, List.set_cons_succ, List.set_cons_zero]
          apply EqGo.run
          focus
            kernel_rfl
          focus
            intro x K hK
            go_wp2_with fail
            first | exact hK x (Below.refl _ _) | exact Below.refl _ _
          simp only [Act.put, List.setIfInBounds_toArray, List.set_cons_succ, List.set_cons_zero]
          apply EqGo.run
          focus
            kernel_rfl
          focus
            intro x K hK
            go_wp2_with fail
            first | exact hK x (Below.refl _ _) | exact Below.refl _ _
          simp only [Act.put, List.setIfInBounds_toArray, List.set_cons_succ, List.set_cons_zero]
          apply EqGo.run
          focus
            kernel_rfl
          focus
            intro x K hK
            go_wp2_with fail
            first | exact hK x (Below.refl _ _) | exact Below.refl _ _
          simp only [Act.put, List.setIfInBounds_toArray, List.set_cons_succ, List.set_cons_zero]
          apply EqGo.run
          focus
            kernel_rfl
          focus
            intro x K hK
            go_wp2_with fail
            first | exact hK x (Below.refl _ _) | exact Below.refl _ _
          simp only [Act.put, List.setIfInBounds_toArray, List.set_cons_succ, List.set_cons_zero]
          apply EqGo.run
          focus
            kernel_rfl
          focus
            intro x K hK
            go_wp2_with fail
            first | exact hK x (Below.refl _ _) | exact Below.refl _ _
          simp only [Act.put, List.setIfInBounds_toArray, List.set_cons_succ, List.set_cons_zero]
          apply EqGo.run
          focus
            kernel_rfl
          focus
            intro x K hK
            go_wp2_with fail
            first | exact hK x (Below.refl _ _) | exact Below.refl _ _
          simp only [Act.put, List.setIfInBounds_toArray, List.set_cons_succ, List.set_cons_zero]
          apply EqGo.run
          focus
            kernel_rfl
          focus
            intro x K hK
            go_wp2_with fail
            first | exact hK x (Below.refl _ _) | exact Below.refl _ _
          simp only [Act.put, List.setIfInBounds_toArray, List.set_cons_succ, List.set_cons_zero]
          apply EqGo.run
          focus
            kernel_rfl
          focus
            intro x K hK
            go_wp2_with fail
            refine (Hid.out HBY x.val).mono ?_
            rintro e x' ⟨rfl, hb'⟩
            exact hK ⟨x', x.below.trans (hb'.mono x.below.size)⟩ hb'
          simp only [Act.put, List.setIfInBounds_toArray, List.set_cons_succ, List.set_cons_zero]
          apply EqGo.run
          focus
            kernel_rfl
          focus
            intro x K hK
            go_wp2_with fail
            first | exact hK x (Below.refl _ _) | exact Below.refl _ _
          simp only [Act.put, List.setIfInBounds_toArray, List.set_cons_succ, List.set_cons_zero]
          apply EqGo.run
          focus
            kernel_rfl
          focus
            intro x K hK
            go_wp2_with fail
            first | exact hK x (Below.refl _ _) | exact Below.refl _ _
          simp only [Act.put, List.setIfInBounds_toArray, List.set_cons_succ, List.set_cons_zero]
          apply EqGo.run
          focus
            kernel_rfl
          focus
            intro x K hK
            go_wp2_with fail
            first | exact hK x (Below.refl _ _) | exact Below.refl _ _
          simp only [Act.put, List.setIfInBounds_toArray, List.set_cons_succ, List.set_cons_zero]
          apply EqGo.run
          focus
            kernel_rfl
          focus
            intro x K hK
            go_wp2_with fail
            first | exact hK x (Below.refl _ _) | exact Below.refl _ _
          simp only [Act.put, List.setIfInBounds_toArray, List.set_cons_succ, List.set_cons_zero]
          apply EqGo.run
          focus
            kernel_rfl
          focus
            intro x K hK
            go_wp2_with fail
            first | exact hK x (Below.refl _ _) | exact Below.refl _ _
          simp only [Act.put, List.setIfInBounds_toArray, List.set_cons_succ, List.set_cons_zero]
          intro x
          replace HP := Lib.hid (HP.out.below x.below)
          replace HQ := Lib.hid (HQ.out.below x.below)
          replace HR := Lib.hid (HR.out.below x.below)
          replace HB := Lib.hid (HB.out.trans (x.below.mono HB.out.size))
          clear l0 l1 l2 HBY
          generalize x.val = wx at *
          clear x
          have z0 := HP.out.cell 0
          have z1 := HP.out.cell 1
          have z2 := HP.out.cell 2
          have z3 := HP.out.cell 3
          have y0 := HQ.out.cell 0
          have y1 := HQ.out.cell 1
          have y2 := HQ.out.cell 2
          have y3 := HQ.out.cell 3
          have g0 := HQ.out.frozen 0
          have g1 := HQ.out.frozen 1
          have g2 := HQ.out.frozen 2
          have g3 := HQ.out.frozen 3
          have f0 := HP.out.frozen 0
          have f3 := HP.out.frozen 3
          have r0 := HR.out.c0
          have r1 := HR.out.c1
          have r2 := HR.out.c2
          simp only [List.getElem?_toArray, List.getElem?_cons_zero, List.getElem?_cons_succ] at z0 z1 z2 z3 y0 y1 y2 y3
        have hcs := HCS.out
        subst hcs
        have hcv := conv1 d wx
        have hPa := HP.out.alloc (.cells #[.int .u8 ((d : UInt8).toNat : Int)] 5)
        have hQa := HQ.out.alloc (.cells #[.int .u8 ((d : UInt8).toNat : Int)] 5)
        have hBa := HB.out.alloc HB.out.size (.cells #[.int .u8 ((d : UInt8).toNat : Int)] 5)
        try simp only [show ((d : UInt8).toNat : Int) = (d.toNat : Int) from rfl] at hcv hPa hQa hBa
        clear z0 z1 z2 y0 y1 y2 y3 g0 g1 g2 g3 f0 f3 r0 r1 r2
        go_upto_region 7 with (fail)
        clear z3
        have z3 := hPa.cell 3
        have f3 := hPa.frozen 3
        simp only [List.getElem?_toArray, List.getElem?_cons_zero, List.getElem?_cons_succ] at z3
        go_upto_region 8 with (fail)
        clear z3 f3 hcv
        have hP2 := hPa.set 3 (.string { data := #[d] })
        have hQ2 := hQa.other (a := ⟨P, 3, none⟩) (fun e => hPQ e.symm) (.string { data := #[d] })
        have hB2 := hBa.setCell (p := ⟨P, 3, none⟩) hPb2 (.string { data := #[d] })
        simp only [List.setIfInBounds_toArray, List.set_cons_succ, List.set_cons_zero] at hP2
        generalize (wx.alloc (.cells #[.int .u8 (d.toNat : Int)] 5)).setCell ⟨P, 3, none⟩ (.string { data := #[d] }) = wz at *
        clear hPa hQa hBa HP HQ HB
        have z0 := hP2.cell 0
        have z1 := hP2.cell 1
        have z2 := hP2.cell 2
        have z3 := hP2.cell 3
        have f3 := hP2.frozen 3
        have y0 := hQ2.cell 0
        have y1 := hQ2.cell 1
        have y2 := hQ2.cell 2
        have y3 := hQ2.cell 3
        have g0 := hQ2.frozen 0
        have g1 := hQ2.frozen 1
        have g2 := hQ2.frozen 2
        have g3 := hQ2.frozen 3
        simp only [List.getElem?_toArray, List.getElem?_cons_zero, List.getElem?_cons_succ] at z0 z1 z2 z3 y0 y1 y2 y3
        have HP := Lib.hid hP2
        have HQ := Lib.hid hQ2
        have HB := Lib.hid hB2
        clear hP2 hQ2 hB2
        go_wp2_with fail
        have hQf := HQ.out.set4 (.int .i64 1) (.int .i64 i) (.int .i64 0) (.string { data := #[d] })
        have hbf := below_set4 HB.out (Nat.le_refl _) (.int .i64 1) (.int .i64 i) (.int .i64 0) (.string { data := #[d] })
        have q0 := hQf.cell 0
        have q1 := hQf.cell 1
        have q2 := hQf.cell 2
        have q3 := hQf.cell 3
        simp only [List.getElem?_toArray, List.getElem?_cons_zero, List.getElem?_cons_succ] at q0 q1 q2 q3
        refine bodyPost_ret (v := .tuple #[.agg #[(.int .i64 1), .int .i64 i, (.int .i64 0), (.string { data := #[d] })], (.int .i64 2), .nilIface]) (by simp [results, Tryd.results71, go_sem, q0, q1, q2, q3]) rfl (And.intro ?_ hbf)
        rfl
  · rw [dif_neg h2]
    rw [byteV_out (by omega)] at HBY
    go_enter Tryd.func71, Tryd.ntmps71
    go_upto_region 1 with (fail)
    rw [← HW1.out]
    apply wp_region_relA 23 [eqT _, eqT _, eqT _, eqT _, eqT _, eqT _, eqT _, eqT _, eqT _, eqT _, eqT _, eqT _, eqT _, eqT _, eqT _, eqT _, eqT _, eqT _, eqT _, eqT _, eqT _, eqT _, newT 48 #[.int .i64 0, .int .i64 0, .int .i64 0, .string { data := #[] }] w1.heap.size] (by kernel_rfl) (by kernel_rfl) (by kernel_rfl) rfl
    focus
      refine ⟨?_, ?_⟩
      focus
        unfold opGoal
        rw [if_pos (by kernel_rfl)]
        intro x hb hd K hk
        clear hd
        go_wp2_with fail
        exact hk _ _ rfl trivial (Below.refl _ _)
      rintro _ rfl
      simp only [Act.put, List.setIfInBounds_toArray, List.set_cons_succ, List.set_cons_zero]
      refine ⟨?_, ?_⟩
      focus
        unfold opGoal
        rw [if_pos (by kernel_rfl)]
        intro x hb hd K hk
        clear hd
        go_wp2_with fail
        exact hk _ _ rfl trivial (Below.refl _ _)
      rintro _ rfl
      simp only [Act.put, List.setIfInBounds_toArray, List.set_cons_succ, List.set_cons_zero]
      refine ⟨?_, ?_⟩
      focus
        unfold opGoal
        rw [if_pos (by kernel_rfl)]
        intro x hb hd K hk
        clear hd
        go_wp2_with fail
        exact hk _ _ rfl trivial (Below.refl _ _)
      rintro _ rfl
      simp only [Act.put, List.setIfInBounds_toArray, List.set_cons_succ, List.set_cons_zero]
      refine ⟨?_, ?_⟩
      focus
        unfold opGoal
        rw [if_pos (by kernel_rfl)]
        intro x hb hd K hk
        clear hd
        have l0 := cell_keep hb r1
        go_wp2_with fail
        exact hk _ _ rfl trivial (Below.refl _ _)
      rintro _ rfl
      simp only [Act.put, List.setIfInBounds_toArray, List.set_cons_succ, List.set_cons_zero]
      refine ⟨?_, ?_⟩
      focus
        unfold opGoal
        rw [if_pos (by kernel_rfl)]
        intro x hb hd K hk
        clear hd
        go_wp2_with fail
        exact hk _ _ rfl trivial (Below.refl _ _)
      rintro _ rfl
      simp only [Act.put, List.setIfInBounds_toArray, List.set_cons_succ, List.set_cons_zero]
      refine ⟨?_, ?_⟩
      focus
        unfold opGoal
        rw [if_pos (by kernel_rfl)]
        intro x hb hd K hk
        clear hd
        go_wp2_with fail
        exact hk _ _ rfl trivial (Below.refl _ _)
      rintro _ rfl
      simp only [Act.put, List.setIfInBounds_toArray, List.set_cons_succ, List.set_cons_zero]
      refine ⟨?_, ?_⟩
      focus
        unfold opGoal
        rw [if_pos (by kernel_rfl)]
        intro x hb hd K hk
        clear hd
        go_wp2_with fail
        exact hk _ _ rfl trivial (Below.refl _ _)
      rintro _ rfl
      simp only [Act.put, List.setIfInBounds_toArray, List.set_cons_succ, List.set_cons_zero]
      refine ⟨?_, ?_⟩
      focus
        unfold opGoal
        rw [if_pos (by kernel_rfl)]
        intro x hb hd K hk
        clear hd
        have l0 := cell_keep hb r0
        go_wp2_with fail
        exact hk _ _ rfl trivial (Below.refl _ _)
      rintro _ rfl
      simp only [Act.put, List.setIfInBounds_toArray, List.set_cons_succ, List.set_cons_zero]
      refine ⟨?_, ?_⟩
      focus
        unfold opGoal
        rw [if_pos (by kernel_rfl)]
        intro x hb hd K hk
        clear hd
        go_wp2_with fail
        exact hk _ _ rfl trivial (Below.refl _ _)
      rintro _ rfl
      simp only [Act.put, List.setIfInBounds_toArray, List.set_cons_succ, List.set_cons_zero]
      refine ⟨?_, ?_⟩
      focus
        unfold opGoal
        rw [if_pos (by kernel_rfl)]
        intro x hb hd K hk
        clear hd
        go_wp2_with fail
        exact hk _ _ rfl trivial (Below.refl _ _)
      rintro _ rfl
      simp only [Act.put, List.setIfInBounds_toArray, List.set_cons_succ, List.set_cons_zero]
      refine ⟨?_, ?_⟩
      focus
        unfold opGoal
        rw [if_pos (by kernel_rfl)]
        intro x hb hd K hk
        clear hd
        have l0 := cell_keep hb r2
        go_wp2_with fail
        exact hk _ _ rfl trivial (Below.refl _ _)
      rintro _ rfl
      simp only [Act.put, List.setIfInBounds_toArray, List.set_cons_succ, List.set_cons_zero]
      refine ⟨?_, ?_⟩
      focus
        unfold opGoal
        rw [if_pos (by kernel_rfl)]
        intro x hb hd K hk
        clear hd
        go_wp2_with fail
        exact hk _ _ rfl trivial (Below.refl _ _)
      rintro _ rfl
      simp only [Act.put, List.setIfInBounds_toArray, List.set_cons_succ, List.set_cons_zero]
      refine ⟨?_, ?_⟩
      focus
        unfold opGoal
        rw [if_pos (by kernel_rfl)]
        intro x hb hd K hk
        clear hd
        go_wp2_with fail
        exact hk _ _ rfl trivial (Below.refl _ _)
      rintro _ rfl
      simp only [Act.put, List.setIfInBounds_toArray, List.set_cons_succ, List.set_cons_zero]
      refine ⟨?_, ?_⟩
      focus
        unfold opGoal
        rw [if_pos (by kernel_rfl)]
        intro x hb hd K hk
        clear hd
        go_wp2_with fail
        exact hk _ _ rfl trivial (Below.refl _ _)
      rintro _ rfl
      simp only [Act.put, List.setIfInBounds_toArray, List.set_cons_succ, List.set_cons_zero]
      refine ⟨?_, ?_⟩
      focus
        unfold opGoal
        rw [if_pos (by kernel_rfl)]
        intro x hb hd K hk
        clear hd
        have l0 := cell_keep hb r1
        go_wp2_with fail
        exact hk _ _ rfl trivial (Below.refl _ _)
      rintro _ rfl
      simp only [Act.put, List.setIfInBounds_toArray, List.set_cons_succ, List.set_cons_zero]
      refine ⟨?_, ?_⟩
      focus
        unfold opGoal
        rw [if_pos (by kernel_rfl)]
        intro x hb hd K hk
        clear hd
        go_wp2_with fail
        exact hk _ _ rfl trivial (Below.refl _ _)
      rintro _ rfl
      simp only [Act.put, List.setIfInBounds_toArray, List.set_cons_succ, List.set_cons_zero]
      refine ⟨?_, ?_⟩
      focus
        unfold opGoal
        rw [if_pos (by kernel_rfl)]
        intro x hb hd K hk
        clear hd
        go_wp2_with fail
        exact hk _ _ rfl trivial (Below.refl _ _)
      rintro _ rfl
      simp only [Act.put, List.setIfInBounds_toArray, List.set_cons_succ, List.set_cons_zero]
      refine ⟨?_, ?_⟩
      focus
        unfold opGoal
        rw [if_pos (by kernel_rfl)]
        intro x hb hd K hk
        clear hd
        go_wp2_with fail
        exact hk _ _ rfl trivial (Below.refl _ _)
      rintro _ rfl
      simp only [Act.put, List.setIfInBounds_toArray, List.set_cons_succ, List.set_cons_zero]
      refine ⟨?_, ?_⟩
      focus
        unfold opGoal
        rw [if_pos (by kernel_rfl)]
        intro x hb hd K hk
        clear hd
        have l0 := cell_keep hb r1
        go_wp2_with fail
        exact hk _ _ rfl trivial (Below.refl _ _)
      rintro _ rfl
      simp only [Act.put, List.setIfInBounds_toArray, List.set_cons_succ, List.set_cons_zero]
      refine ⟨?_, ?_⟩
      focus
        unfold opGoal
        rw [if_pos (by kernel_rfl)]
        intro x hb hd K hk
        clear hd
        go_wp2_with fail
        exact hk _ _ rfl trivial (Below.refl _ _)
      rintro _ rfl
      simp only [Act.put, List.setIfInBounds_toArray, List.set_cons_succ, List.set_cons_zero]
      refine ⟨?_, ?_⟩
      focus
        unfold opGoal
        rw [if_pos (by kernel_rfl)]
        intro x hb hd K hk
        clear hd
        go_wp2_with fail
        refine (Hid.out HSL x).mono ?_
        rintro e x' ⟨rfl, hb'⟩
        exact hk _ _ rfl trivial hb'
      rintro _ rfl
      simp only [Act.put, List.setIfInBounds_toArray, List.set_cons_succ, List.set_cons_zero]
      refine ⟨?_, ?_⟩
      focus
        unfold opGoal
        rw [if_pos (by kernel_rfl)]
        intro x hb hd K hk
        clear hd
        go_wp2_with fail
        exact hk _ _ rfl trivial (Below.refl _ _)
      rintro _ rfl
      simp only [Act.put, List.setIfInBounds_toArray, List.set_cons_succ, List.set_cons_zero]
      refine ⟨?_, ?_⟩
      focus
        unfold opGoal
        rw [if_pos (by kernel_rfl)]
        intro x hb hd K hk
        clear hd
        go_wp2_with fail
        refine hk _ _ ⟨_, rfl⟩ ?_ ((Below.refl _ _).alloc (Nat.le_refl _) _)
        intro g hg
        injection hg with hg
        injection hg with hg
        injection hg with hg
        subst hg
        exact ⟨Blk.new x _ _, hb.size⟩
      rintro _ ⟨P, rfl⟩
      simp only [Act.put, List.setIfInBounds_toArray, List.set_cons_succ, List.set_cons_zero]
      intro x hbx hf
      simp only [List.drop_succ_cons, List.drop_zero]
      obtain ⟨hPx, hPb⟩ := hf 22 (newT 48 #[.int .i64 0, .int .i64 0, .int .i64 0, .string { data := #[] }] w1.heap.size) (.pointer (some ⟨P, 0, none⟩)) (by kernel_rfl) (by kernel_rfl) P rfl
      clear hf
      have m0 := hPx.cell 0
      have m1 := hPx.cell 1
      have m2 := hPx.cell 2
      have m3 := hPx.cell 3
      have f0 := hPx.frozen 0
      have f1 := hPx.frozen 1
      have f2 := hPx.frozen 2
      have f3 := hPx.frozen 3
      simp only [List.getElem?_toArray, List.getElem?_cons_zero, List.getElem?_cons_succ] at m0 m1 m2 m3
      have HPX := Lib.hid hPx
      clear hPx
      have hPQ : P ≠ w.heap.size := by rw [HZ1.out] at hPb; omega
      have hPb2 : w.heap.size ≤ P := by rw [HZ1.out] at hPb; omega
      have HXB := Lib.hid hbx
      clear hbx r0 r1 r2 HSL
      go_wp2_with fail
      have hP := HPX.out.set4 (.int .i64 1) (.int .i64 i) (.int .i64 0) (.string cs)
      have hQ := (But.set4 P x (.int .i64 1) (.int .i64 i) (.int .i64 0) (.string cs)).blk (HQ1.out.below HXB.out) (fun e => hPQ e.symm)
      have hR := (HR1.out.below HXB.out).set4 HPX.out (.int .i64 1) (.int .i64 i) (.int .i64 0) (.string cs)
      have hbw := below_set4 (HB1.out.trans (HXB.out.mono HB1.out.size)) hPb2 (.int .i64 1) (.int .i64 i) (.int .i64 0) (.string cs)
      generalize (((x.setCell ⟨P, 0, none⟩ (.int .i64 1)).setCell ⟨P, 1, none⟩ (.int .i64 i)).setCell ⟨P, 2, none⟩ (.int .i64 0)).setCell ⟨P, 3, none⟩ (.string cs) = wy at *
      clear m0 m1 m2 m3 f0 f1 f2 f3 HPX HXB HQ1 HR1 HB1 HW1 HZ1 hPb x w1
      have l0 := Later.cell hR.c0
      have l1 := Later.cell hR.c1
      have l2 := Later.cell hR.c2
      have HP := Lib.hid hP
      have HQ := Lib.hid hQ
      have HR := Lib.hid hR
      have HB := Lib.hid hbw
      clear hP hQ hR hbw
      refine wp_region_eq (by kernel_rfl) (by kernel_rfl) ?_
      apply EqGo.run
      focus
        kernel_rfl
      focus
        intro x K hK
        go_wp2_with fail
        first | exact hK x (Below.refl _ _) | exact Below.refl _ _
      simp only [Act.put, List.setIfInBounds_toArray, List.set_cons_succ, List.set_cons_zero]
      apply EqGo.run
      focus
        kernel_rfl
      focus
        intro x K hK
        go_wp2_with fail
        first | exact hK x (Below.refl _ _) | exact Below.refl _ _
      simp only [Act.put, List.setIfInBounds_toArray, List.set_cons_succ, List.set_cons_zero]
      apply EqGo.run
      focus
        kernel_rfl
      focus
        intro x K hK
        go_wp2_with fail
        first | exact hK x (Below.refl _ _) | exact Below.refl _ _
      simp only [Act.put, List.setIfInBounds_toArray, List.set_cons_succ, List.set_cons_zero]
      apply EqGo.run
      focus
        kernel_rfl
      focus
        intro x K hK
        go_wp2_with fail
        first | exact hK x (Below.refl _ _) | exact Below.refl _ _
      simp only [Act.put, List.setIfInBounds_toArray, List.set_cons_succ, List.set_cons_zero]
      apply EqGo.run
      focus
        kernel_rfl
      focus
        intro x K hK
        go_wp2_with fail
        first | exact hK x (Below.refl _ _) | exact Below.refl _ _
      simp only [Act.put, List.setIfInBounds_toArray, List.set_cons_succ, List.set_cons_zero]
      apply EqGo.run
      focus
        kernel_rfl
      focus
        intro x K hK
        go_wp2_with fail
        first | exact hK x (Below.refl _ _) | exact Below.refl _ _
      simp only [Act.put, List.setIfInBounds_toArray, List.set_cons_succ, List.set_cons_zero]
      apply EqGo.run
      focus
        kernel_rfl
      focus
        intro x K hK
        go_wp2_with fail
        first | exact hK x (Below.refl _ _) | exact Below.refl _ _
      simp only [Act.put, List.setIfInBounds_toArray, List.set_cons_succ, List.set_cons_zero]
      apply EqGo.run
      focus
        kernel_rfl
      focus
        intro x K hK
        go_wp2_with fail
        first | exact hK x (Below.refl _ _) | exact Below.refl _ _
      simp only [Act.put, List.setIfInBounds_toArray, List.set_cons_succ, List.set_cons_zero]
      apply EqGo.run
      focus
        kernel_rfl
      focus
        intro x K hK
        go_wp2_with fail
        first | exact hK x (Below.refl _ _) | exact Below.refl _ _
      simp only [Act.put, List.setIfInBounds_toArray, List.set_cons_succ, List.set_cons_zero]
      apply EqGo.run
      focus
        kernel_rfl
      focus
        intro x K hK
        go_wp2_with fail
        first | exact hK x (Below.refl _ _) | exact Below.refl _ _
      simp only [Act.put, List.setIfInBounds_toArray, List.set_cons_succ, List.set_cons_zero]
      apply EqGo.run
      focus
        kernel_rfl
      focus
        intro x K hK
        go_wp2_with fail
        first | exact hK x (Below.refl _ _) | exact Below.refl _ _
      simp only [Act.put, List.setIfInBounds_toArray, List.set_cons_succ, List.set_cons_zero]
      apply EqGo.run
      focus
        kernel_rfl
      focus
        intro x K hK
        go_wp2_with fail
        first | exact hK x (Below.refl _ _) | exact Below.refl _ _
      simp only [Act.put, List.setIfInBounds_toArray, List.set_cons_succ, List.set_cons_zero]
      apply EqGo.run
      focus
        kernel_rfl
      focus
        intro x K hK
        go_wp2_with fail
        refine (Hid.out HBY x.val).mono ?_
        rintro e x' ⟨rfl, hb'⟩
        exact hK ⟨x', x.below.trans (hb'.mono x.below.size)⟩ hb'
      simp only [Act.put, List.setIfInBounds_toArray, List.set_cons_succ, List.set_cons_zero]
      apply EqGo.run
      focus
        kernel_rfl
      focus
        intro x K hK
        go_wp2_with fail
        first | exact hK x (Below.refl _ _) | exact Below.refl _ _
      simp only [Act.put, List.setIfInBounds_toArray, List.set_cons_succ, List.set_cons_zero]
      apply EqGo.run
      focus
        kernel_rfl
      focus
        intro x K hK
        go_wp2_with fail
        first | exact hK x (Below.refl _ _) | exact Below.refl _ _
      simp only [Act.put, List.setIfInBounds_toArray, List.set_cons_succ, List.set_cons_zero]
      apply EqGo.run
      focus
        kernel_rfl
      focus
        intro x K hK
        go_wp2_with fail
        first | exact hK x (Below.refl _ _) | exact Below.refl _ _
      simp only [Act.put, List.setIfInBounds_toArray, List.set_cons_succ, List.set_cons_zero]
      apply EqGo.run
      focus
        kernel_rfl
      focus
        intro x K hK
        go_wp2_with fail
        first | exact hK x (Below.refl _ _) | exact Below.refl _ _
      simp only [Act.put, List.setIfInBounds_toArray, List.set_cons_succ, List.set_cons_zero]
      apply EqGo.run
      focus
        kernel_rfl
      focus
        intro x K hK
        go_wp2_with fail
        first | exact hK x (Below.refl _ _) | exact Below.refl _ _
      simp only [Act.put, List.setIfInBounds_toArray, List.set_cons_succ, List.set_cons_zero]
      intro x
      replace HP := Lib.hid (HP.out.below x.below)
      replace HQ := Lib.hid (HQ.out.below x.below)
      replace HR := Lib.hid (HR.out.below x.below)
      replace HB := Lib.hid (HB.out.trans (x.below.mono HB.out.size))
      clear l0 l1 l2 HBY
      generalize x.val = wx at *
      clear x
      have z0 := HP.out.cell 0
      have z1 := HP.out.cell 1
      have z2 := HP.out.cell 2
      have z3 := HP.out.cell 3
      have y0 := HQ.out.cell 0
      have y1 := HQ.out.cell 1
      have y2 := HQ.out.cell 2
      have y3 := HQ.out.cell 3
      have g0 := HQ.out.frozen 0
      have g1 := HQ.out.frozen 1
      have g2 := HQ.out.frozen 2
      have g3 := HQ.out.frozen 3
      have f0 := HP.out.frozen 0
      have f3 := HP.out.frozen 3
      have r0 := HR.out.c0
      have r1 := HR.out.c1
      have r2 := HR.out.c2
      simp only [List.getElem?_toArray, List.getElem?_cons_zero, List.getElem?_cons_succ] at z0 z1 z2 z3 y0 y1 y2 y3
    have hcs := HCS.out
    subst hcs
    go_wp2_with fail
    have hQf := HQ.out.set4 (.int .i64 1) (.int .i64 i) (.int .i64 0) (.string { data := #[92] })
    have hbf := below_set4 HB.out (Nat.le_refl _) (.int .i64 1) (.int .i64 i) (.int .i64 0) (.string { data := #[92] })
    have q0 := hQf.cell 0
    have q1 := hQf.cell 1
    have q2 := hQf.cell 2
    have q3 := hQf.cell 3
    simp only [List.getElem?_toArray, List.getElem?_cons_zero, List.getElem?_cons_succ] at q0 q1 q2 q3
    refine bodyPost_ret (v := .tuple #[.agg #[(.int .i64 1), .int .i64 i, (.int .i64 0), (.string { data := #[92] })], (.int .i64 1), .nilIface]) (by simp [results, Tryd.results71, go_sem, q0, q1, q2, q3]) rfl (And.intro ?_ hbf)
    rfl
end Go.Proofs.YtlhpflilpdceiaaDoor
