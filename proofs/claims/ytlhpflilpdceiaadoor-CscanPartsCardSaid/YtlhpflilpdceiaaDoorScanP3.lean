/- The walk over package cscan's part: a bracket. Bounds on the lengths. -/
import Derived.Test.YtlhpflilpdceiaaDoorScanW6
set_option linter.unusedVariables false
set_option linter.unusedSimpArgs false
namespace Go.Proofs.YtlhpflilpdceiaaDoor
open Go.RowKit

set_option maxRecDepth 100000 in
set_option maxHeartbeats 8000000 in
theorem part_sub_any (B S : Nat) (s : ByteArray) (i : Nat) (Ls : List Addr) (w : World) (h : Rdr w B S s i) (hE : SenW w Ls) (hs : s.size ≤ 1000000) (hi : i < s.size) (hcc : s.data.toList[i]'hi = 91) :
    Calls Tryd.prog 71 #[.pointer (some ⟨B, 0, none⟩)] w (PartRet (partA s.data.toList i) Ls w) := by
  obtain ⟨aN, haN⟩ : ∃ a, Ls[3]? = some a := ⟨Ls[3]'(by rw [hE.len]; decide), List.getElem?_eq_getElem _⟩
  have HN0 := Lib.hid (hE.var 3 _ aN rfl haN)
  have HSE := Lib.hid hE
  clear hE
  obtain ⟨w1, hw1⟩ : ∃ w1, w1 = w.alloc (.cells #[.int .i64 0, .int .i64 0, .int .i64 0, .string { data := #[] }] 48) := ⟨_, rfl⟩
  have hb1 : Below w.heap.size w w1 := by rw [hw1]; exact (Below.refl _ _).alloc (Nat.le_refl _) _
  have hQ1 : Blk w1 w.heap.size 48 #[.int .i64 0, .int .i64 0, .int .i64 0, .string { data := #[] }] := by rw [hw1]; exact Blk.new w _ _
  have HZ1 := Lib.hid (show w1.heap.size = w.heap.size + 1 by rw [hw1]; exact alloc_size _ _)
  have hr1 := h.below hb1
  have r0 := hr1.c0
  have r1 := hr1.c1
  have r2 := hr1.c2
  obtain ⟨L, hL⟩ : ∃ L, L = s.data.toList := ⟨_, rfl⟩
  have hn : L.length = s.size := by rw [hL]; rfl
  have hi' : i < L.length := by omega
  have HSL := Lib.hid (fun W => bslice_any s i (i + 1) W)
  have HBY := Lib.hid (fun W => byte_any s (i + 1) W)
  have HDL := Lib.hid (fun (W : World) (hr : Rdr W B S s i) (he : SenW W Ls) => dollar_any B S s i Ls W hr he hs hi)
  have HBK := Lib.hid (fun (W : World) (hr : Rdr W B S s i) => bracket_any B S s i (i + 1) W hr hs (by omega))
  have HS2 := Lib.hid (fun k W => bslice_any s (i + 1) k W)
  rw [← hL] at HSL HBY HDL HBK HS2 ⊢
  rw [cut_one hi'] at HSL
  have HW1 := Lib.hid hw1
  have HQ1 := Lib.hid hQ1
  have HR1 := Lib.hid hr1
  have HB1 := Lib.hid hb1
  have HL := Lib.hid hL
  obtain ⟨c, hc⟩ : ∃ c, c = L[i] := ⟨_, rfl⟩
  rw [← hc] at HSL
  clear hw1 hQ1 hr1 hb1 hL h
  have h91 : c = 91 := by rw [hc]; simpa only [HL.out] using hcc
  rw [partA_sub hi' (by rw [← hc]; exact h91)]
  rw [h91] at HSL
  obtain ⟨cs, hcs⟩ : ∃ cs : ByteArray, cs = ⟨#[91]⟩ := ⟨_, rfl⟩
  have hHSL : ∀ W, Calls Tryd.prog 48 #[.agg #[.string s], .int .i64 i, .int .i64 (i + 1)] W (Ret W (.string cs)) := by rw [hcs]; exact HSL.out
  replace HSL := Lib.hid hHSL
  have HCS := Lib.hid hcs
  clear hHSL h91 hc hcs HDL
  unfold byteV at HBY
  generalize decide (i + 1 < L.length) = bb at *
  generalize cAt L (i + 1) = cc at *
  cases hbk : bracketA L (i + 1) 0 with
  | none =>
    rw [hbk] at HBK
    unfold optV at HBK
    clear hbk HS2
    go_enter Tryd.func71, Tryd.ntmps71
    go_upto_region 1 with (fail)
    rw [← HW1.out]
    apply wp_region_relA 23 [eqT _, eqT _, eqT _, eqT _, eqT _, eqT _, eqT _, eqT _, eqT _, eqT _, eqT _, eqT _, eqT _, eqT _, eqT _, eqT _, eqT _, eqT _, eqT _, eqT _, eqT _, eqT _, newT 48 #[.int .i64 0, .int .i64 0, .int .i64 0, .string { data := #[] }] w1.heap.size] (by kernel_rfl) (by kernel_rfl) (by kernel_rfl) rfl
    focus
      refine ⟨?_, ?_⟩
      focus
        unfold opGoal
        rw [if_pos (by kernel_rfl)]
        intro x hb hd K hk
        clear hd
        go_wp2_with fail
        exact hk _ _ rfl trivial (Below.refl _ _)
      rintro _ rfl
      simp only [Act.put, List.setIfInBounds_toArray, List.set_cons_succ, List.set_cons_zero]
      refine ⟨?_, ?_⟩
      focus
        unfold opGoal
        rw [if_pos (by kernel_rfl)]
        intro x hb hd K hk
        clear hd
        go_wp2_with fail
        exact hk _ _ rfl trivial (Below.refl _ _)
      rintro _ rfl
      simp only [Act.put, List.setIfInBounds_toArray, List.set_cons_succ, List.set_cons_zero]
      refine ⟨?_, ?_⟩
      focus
        unfold opGoal
        rw [if_pos (by kernel_rfl)]
        intro x hb hd K hk
        clear hd
        go_wp2_with fail
        exact hk _ _ rfl trivial (Below.refl _ _)
      rintro _ rfl
      simp only [Act.put, List.setIfInBounds_toArray, List.set_cons_succ, List.set_cons_zero]
      refine ⟨?_, ?_⟩
      focus
        unfold opGoal
        rw [if_pos (by kernel_rfl)]
        intro x hb hd K hk
        clear hd
        have l0 := cell_keep hb r1
        go_wp2_with fail
        exact hk _ _ rfl trivial (Below.refl _ _)
      rintro _ rfl
      simp only [Act.put, List.setIfInBounds_toArray, List.set_cons_succ, List.set_cons_zero]
      refine ⟨?_, ?_⟩
      focus
        unfold opGoal
        rw [if_pos (by kernel_rfl)]
        intro x hb hd K hk
        clear hd
        go_wp2_with fail
        exact hk _ _ rfl trivial (Below.refl _ _)
      rintro _ rfl
      simp only [Act.put, List.setIfInBounds_toArray, List.set_cons_succ, List.set_cons_zero]
      refine ⟨?_, ?_⟩
      focus
        unfold opGoal
        rw [if_pos (by kernel_rfl)]
        intro x hb hd K hk
        clear hd
        go_wp2_with fail
        exact hk _ _ rfl trivial (Below.refl _ _)
      rintro _ rfl
      simp only [Act.put, List.setIfInBounds_toArray, List.set_cons_succ, List.set_cons_zero]
      refine ⟨?_, ?_⟩
      focus
        unfold opGoal
        rw [if_pos (by kernel_rfl)]
        intro x hb hd K hk
        clear hd
        go_wp2_with fail
        exact hk _ _ rfl trivial (Below.refl _ _)
      rintro _ rfl
      simp only [Act.put, List.setIfInBounds_toArray, List.set_cons_succ, List.set_cons_zero]
      refine ⟨?_, ?_⟩
      focus
        unfold opGoal
        rw [if_pos (by kernel_rfl)]
        intro x hb hd K hk
        clear hd
        have l0 := cell_keep hb r0
        go_wp2_with fail
        exact hk _ _ rfl trivial (Below.refl _ _)
      rintro _ rfl
      simp only [Act.put, List.setIfInBounds_toArray, List.set_cons_succ, List.set_cons_zero]
      refine ⟨?_, ?_⟩
      focus
        unfold opGoal
        rw [if_pos (by kernel_rfl)]
        intro x hb hd K hk
        clear hd
        go_wp2_with fail
        exact hk _ _ rfl trivial (Below.refl _ _)
      rintro _ rfl
      simp only [Act.put, List.setIfInBounds_toArray, List.set_cons_succ, List.set_cons_zero]
      refine ⟨?_, ?_⟩
      focus
        unfold opGoal
        rw [if_pos (by kernel_rfl)]
        intro x hb hd K hk
        clear hd
        go_wp2_with fail
        exact hk _ _ rfl trivial (Below.refl _ _)
      rintro _ rfl
      simp only [Act.put, List.setIfInBounds_toArray, List.set_cons_succ, List.set_cons_zero]
      refine ⟨?_, ?_⟩
      focus
        unfold opGoal
        rw [if_pos (by kernel_rfl)]
        intro x hb hd K hk
        clear hd
        have l0 := cell_keep hb r2
        go_wp2_with fail
        exact hk _ _ rfl trivial (Below.refl _ _)
      rintro _ rfl
      simp only [Act.put, List.setIfInBounds_toArray, List.set_cons_succ, List.set_cons_zero]
      refine ⟨?_, ?_⟩
      focus
        unfold opGoal
        rw [if_pos (by kernel_rfl)]
        intro x hb hd K hk
        clear hd
        go_wp2_with fail
        exact hk _ _ rfl trivial (Below.refl _ _)
      rintro _ rfl
      simp only [Act.put, List.setIfInBounds_toArray, List.set_cons_succ, List.set_cons_zero]
      refine ⟨?_, ?_⟩
      focus
        unfold opGoal
        rw [if_pos (by kernel_rfl)]
        intro x hb hd K hk
        clear hd
        go_wp2_with fail
        exact hk _ _ rfl trivial (Below.refl _ _)
      rintro _ rfl
      simp only [Act.put, List.setIfInBounds_toArray, List.set_cons_succ, List.set_cons_zero]
      refine ⟨?_, ?_⟩
      focus
        unfold opGoal
        rw [if_pos (by kernel_rfl)]
        intro x hb hd K hk
        clear hd
        go_wp2_with fail
        exact hk _ _ rfl trivial (Below.refl _ _)
      rintro _ rfl
      simp only [Act.put, List.setIfInBounds_toArray, List.set_cons_succ, List.set_cons_zero]
      refine ⟨?_, ?_⟩
      focus
        unfold opGoal
        rw [if_pos (by kernel_rfl)]
        intro x hb hd K hk
        clear hd
        have l0 := cell_keep hb r1
        go_wp2_with fail
        exact hk _ _ rfl trivial (Below.refl _ _)
      rintro _ rfl
      simp only [Act.put, List.setIfInBounds_toArray, List.set_cons_succ, List.set_cons_zero]
      refine ⟨?_, ?_⟩
      focus
        unfold opGoal
        rw [if_pos (by kernel_rfl)]
        intro x hb hd K hk
        clear hd
        go_wp2_with fail
        exact hk _ _ rfl trivial (Below.refl _ _)
      rintro _ rfl
      simp only [Act.put, List.setIfInBounds_toArray, List.set_cons_succ, List.set_cons_zero]
      refine ⟨?_, ?_⟩
      focus
        unfold opGoal
        rw [if_pos (by kernel_rfl)]
        intro x hb hd K hk
        clear hd
        go_wp2_with fail
        exact hk _ _ rfl trivial (Below.refl _ _)
      rintro _ rfl
      simp only [Act.put, List.setIfInBounds_toArray, List.set_cons_succ, List.set_cons_zero]
      refine ⟨?_, ?_⟩
      focus
        unfold opGoal
        rw [if_pos (by kernel_rfl)]
        intro x hb hd K hk
        clear hd
        go_wp2_with fail
        exact hk _ _ rfl trivial (Below.refl _ _)
      rintro _ rfl
      simp only [Act.put, List.setIfInBounds_toArray, List.set_cons_succ, List.set_cons_zero]
      refine ⟨?_, ?_⟩
      focus
        unfold opGoal
        rw [if_pos (by kernel_rfl)]
        intro x hb hd K hk
        clear hd
        have l0 := cell_keep hb r1
        go_wp2_with fail
        exact hk _ _ rfl trivial (Below.refl _ _)
      rintro _ rfl
      simp only [Act.put, List.setIfInBounds_toArray, List.set_cons_succ, List.set_cons_zero]
      refine ⟨?_, ?_⟩
      focus
        unfold opGoal
        rw [if_pos (by kernel_rfl)]
        intro x hb hd K hk
        clear hd
        go_wp2_with fail
        exact hk _ _ rfl trivial (Below.refl _ _)
      rintro _ rfl
      simp only [Act.put, List.setIfInBounds_toArray, List.set_cons_succ, List.set_cons_zero]
      refine ⟨?_, ?_⟩
      focus
        unfold opGoal
        rw [if_pos (by kernel_rfl)]
        intro x hb hd K hk
        clear hd
        go_wp2_with fail
        refine (Hid.out HSL x).mono ?_
        rintro e x' ⟨rfl, hb'⟩
        exact hk _ _ rfl trivial hb'
      rintro _ rfl
      simp only [Act.put, List.setIfInBounds_toArray, List.set_cons_succ, List.set_cons_zero]
      refine ⟨?_, ?_⟩
      focus
        unfold opGoal
        rw [if_pos (by kernel_rfl)]
        intro x hb hd K hk
        clear hd
        go_wp2_with fail
        exact hk _ _ rfl trivial (Below.refl _ _)
      rintro _ rfl
      simp only [Act.put, List.setIfInBounds_toArray, List.set_cons_succ, List.set_cons_zero]
      refine ⟨?_, ?_⟩
      focus
        unfold opGoal
        rw [if_pos (by kernel_rfl)]
        intro x hb hd K hk
        clear hd
        go_wp2_with fail
        refine hk _ _ ⟨_, rfl⟩ ?_ ((Below.refl _ _).alloc (Nat.le_refl _) _)
        intro g hg
        injection hg with hg
        injection hg with hg
        injection hg with hg
        subst hg
        exact ⟨Blk.new x _ _, hb.size⟩
      rintro _ ⟨P, rfl⟩
      simp only [Act.put, List.setIfInBounds_toArray, List.set_cons_succ, List.set_cons_zero]
      intro x hbx hf
      simp only [List.drop_succ_cons, List.drop_zero]
      obtain ⟨hPx, hPb⟩ := hf 22 (newT 48 #[.int .i64 0, .int .i64 0, .int .i64 0, .string { data := #[] }] w1.heap.size) (.pointer (some ⟨P, 0, none⟩)) (by kernel_rfl) (by kernel_rfl) P rfl
      clear hf
      have m0 := hPx.cell 0
      have m1 := hPx.cell 1
      have m2 := hPx.cell 2
      have m3 := hPx.cell 3
      have f0 := hPx.frozen 0
      have f1 := hPx.frozen 1
      have f2 := hPx.frozen 2
      have f3 := hPx.frozen 3
      simp only [List.getElem?_toArray, List.getElem?_cons_zero, List.getElem?_cons_succ] at m0 m1 m2 m3
      have HPX := Lib.hid hPx
      clear hPx
      have hPQ : P ≠ w.heap.size := by rw [HZ1.out] at hPb; omega
      have hPb2 : w.heap.size ≤ P := by rw [HZ1.out] at hPb; omega
      have HXB := Lib.hid hbx
      clear hbx r0 r1 r2 HSL
      go_wp2_with fail
      have hP := HPX.out.set4 (.int .i64 1) (.int .i64 i) (.int .i64 0) (.string cs)
      have hQ := (But.set4 P x (.int .i64 1) (.int .i64 i) (.int .i64 0) (.string cs)).blk (HQ1.out.below HXB.out) (fun e => hPQ e.symm)
      have hR := (HR1.out.below HXB.out).set4 HPX.out (.int .i64 1) (.int .i64 i) (.int .i64 0) (.string cs)
      have hbw := below_set4 (HB1.out.trans (HXB.out.mono HB1.out.size)) hPb2 (.int .i64 1) (.int .i64 i) (.int .i64 0) (.string cs)
      generalize (((x.setCell ⟨P, 0, none⟩ (.int .i64 1)).setCell ⟨P, 1, none⟩ (.int .i64 i)).setCell ⟨P, 2, none⟩ (.int .i64 0)).setCell ⟨P, 3, none⟩ (.string cs) = wy at *
      clear m0 m1 m2 m3 f0 f1 f2 f3 HPX HXB HQ1 HR1 HB1 HW1 HZ1 hPb x w1
      have l0 := Later.cell hR.c0
      have l1 := Later.cell hR.c1
      have l2 := Later.cell hR.c2
      have HP := Lib.hid hP
      have HQ := Lib.hid hQ
      have HR := Lib.hid hR
      have HB := Lib.hid hbw
      clear hP hQ hR hbw
      refine wp_region_eq (by kernel_rfl) (by kernel_rfl) ?_
      apply EqGo.run
      focus
        kernel_rfl
      focus
        intro x K hK
        go_wp2_with fail
        first | exact hK x (Below.refl _ _) | exact Below.refl _ _
      simp only [Act.put, List.setIfInBounds_toArray, List.set_cons_succ, List.set_cons_zero]
      apply EqGo.run
      focus
        kernel_rfl
      focus
        intro x K hK
        go_wp2_with fail
        first | exact hK x (Below.refl _ _) | exact Below.refl _ _
      simp only [Act.put, List.setIfInBounds_toArray, List.set_cons_succ, List.set_cons_zero]
      apply EqGo.run
      focus
        kernel_rfl
      focus
        intro x K hK
        go_wp2_with fail
        first | exact hK x (Below.refl _ _) | exact Below.refl _ _
      simp only [Act.put, List.setIfInBounds_toArray, List.set_cons_succ, List.set_cons_zero]
      apply EqGo.run
      focus
        kernel_rfl
      focus
        intro x K hK
        go_wp2_with fail
        first | exact hK x (Below.refl _ _) | exact Below.refl _ _
      simp only [Act.put, List.setIfInBounds_toArray, List.set_cons_succ, List.set_cons_zero]
      apply EqGo.run
      focus
        kernel_rfl
      focus
        intro x K hK
        go_wp2_with fail
        first | exact hK x (Below.refl _ _) | exact Below.refl _ _
      simp only [Act.put, List.setIfInBounds_toArray, List.set_cons_succ, List.set_cons_zero]
      apply EqGo.run
      focus
        kernel_rfl
      focus
        intro x K hK
        go_wp2_with fail
        first | exact hK x (Below.refl _ _) | exact Below.refl _ _
      simp only [Act.put, List.setIfInBounds_toArray, List.set_cons_succ, List.set_cons_zero]
      apply EqGo.run
      focus
        kernel_rfl
      focus
        intro x K hK
        go_wp2_with fail
        first | exact hK x (Below.refl _ _) | exact Below.refl _ _
      simp only [Act.put, List.setIfInBounds_toArray, List.set_cons_succ, List.set_cons_zero]
      apply EqGo.run
      focus
        kernel_rfl
      focus
        intro x K hK
        go_wp2_with fail
        first | exact hK x (Below.refl _ _) | exact Below.refl _ _
      simp only [Act.put, List.setIfInBounds_toArray, List.set_cons_succ, List.set_cons_zero]
      apply EqGo.run
      focus
        kernel_rfl
      focus
        intro x K hK
        go_wp2_with fail
        first | exact hK x (Below.refl _ _) | exact Below.refl _ _
      simp only [Act.put, List.setIfInBounds_toArray, List.set_cons_succ, List.set_cons_zero]
      apply EqGo.run
      focus
        kernel_rfl
      focus
        intro x K hK
        go_wp2_with fail
        first | exact hK x (Below.refl _ _) | exact Below.refl _ _
      simp only [Act.put, List.setIfInBounds_toArray, List.set_cons_succ, List.set_cons_zero]
      apply EqGo.run
      focus
        kernel_rfl
      focus
        intro x K hK
        go_wp2_with fail
        first | exact hK x (Below.refl _ _) | exact Below.refl _ _
      simp only [Act.put, List.setIfInBounds_toArray, List.set_cons_succ, List.set_cons_zero]
      apply EqGo.run
      focus
        kernel_rfl
      focus
        intro x K hK
        go_wp2_with fail
        first | exact hK x (Below.refl _ _) | exact Below.refl _ _
      simp only [Act.put, List.setIfInBounds_toArray, List.set_cons_succ, List.set_cons_zero]
      apply EqGo.run
      focus
        kernel_rfl
      focus
        intro x K hK
        go_wp2_with fail
        refine (Hid.out HBY x.val).mono ?_
        rintro e x' ⟨rfl, hb'⟩
        exact hK ⟨x', x.below.trans (hb'.mono x.below.size)⟩ hb'
      simp only [Act.put, List.setIfInBounds_toArray, List.set_cons_succ, List.set_cons_zero]
      apply EqGo.run
      focus
        kernel_rfl
      focus
        intro x K hK
        go_wp2_with fail
        first | exact hK x (Below.refl _ _) | exact Below.refl _ _
      simp only [Act.put, List.setIfInBounds_toArray, List.set_cons_succ, List.set_cons_zero]
      apply EqGo.run
      focus
        kernel_rfl
      focus
        intro x K hK
        go_wp2_with fail
        first | exact hK x (Below.refl _ _) | exact Below.refl _ _
      simp only [Act.put, List.setIfInBounds_toArray, List.set_cons_succ, List.set_cons_zero]
      apply EqGo.run
      focus
        kernel_rfl
      focus
        intro x K hK
        go_wp2_with fail
        first | exact hK x (Below.refl _ _) | exact Below.refl _ _
      simp only [Act.put, List.setIfInBounds_toArray, List.set_cons_succ, List.set_cons_zero]
      apply EqGo.run
      focus
        kernel_rfl
      focus
        intro x K hK
        go_wp2_with fail
        first | exact hK x (Below.refl _ _) | exact Below.refl _ _
      simp only [Act.put, List.setIfInBounds_toArray, List.set_cons_succ, List.set_cons_zero]
      apply EqGo.run
      focus
        kernel_rfl
      focus
        intro x K hK
        go_wp2_with fail
        first | exact hK x (Below.refl _ _) | exact Below.refl _ _
      simp only [Act.put, List.setIfInBounds_toArray, List.set_cons_succ, List.set_cons_zero]
      intro x
      replace HP := Lib.hid (HP.out.below x.below)
      replace HQ := Lib.hid (HQ.out.below x.below)
      replace HR := Lib.hid (HR.out.below x.below)
      replace HB := Lib.hid (HB.out.trans (x.below.mono HB.out.size))
      clear l0 l1 l2 HBY
      generalize x.val = wx at *
      clear x
      have z0 := HP.out.cell 0
      have z1 := HP.out.cell 1
      have z2 := HP.out.cell 2
      have z3 := HP.out.cell 3
      have y0 := HQ.out.cell 0
      have y1 := HQ.out.cell 1
      have y2 := HQ.out.cell 2
      have y3 := HQ.out.cell 3
      have g0 := HQ.out.frozen 0
      have g1 := HQ.out.frozen 1
      have g2 := HQ.out.frozen 2
      have g3 := HQ.out.frozen 3
      have f0 := HP.out.frozen 0
      have f3 := HP.out.frozen 3
      have r0 := HR.out.c0
      have r1 := HR.out.c1
      have r2 := HR.out.c2
      simp only [List.getElem?_toArray, List.getElem?_cons_zero, List.getElem?_cons_succ] at z0 z1 z2 z3 y0 y1 y2 y3
    have hcs := HCS.out
    subst hcs
    go_wp2_with fail
    refine (HBK.out _ HR.out).mono ?_
    rintro e w9 ⟨rfl, hb9⟩
    have hR9 := HR.out.below hb9
    have hQ9 := HQ.out.below hb9
    have hB9 := HB.out.trans (hb9.mono HB.out.size)
    have n1 := cell_keep hB9 HN0.out
    have r1' := hR9.c1
    have hlt := hQ9.lt
    have HF := Lib.hid (fun W => cfault_any i aN W)
    have hne : B ≠ w.heap.size := Blk.apart hR9.1 hQ9 (by decide)
    have hne2 : 5 ≠ w.heap.size := by
      intro e
      have h0 := hQ9.cell 0
      rw [← e, n1] at h0
      cases h0
    clear HP HQ HR HB HBK z0 z1 z2 z3 y0 y1 y2 y3 g0 g1 g2 g3 f0 f3 r0 r1 r2 hb9
    go_wp2_with fail
    apply wp_region_st w.heap.size 48 #[.int .i64 0, .int .i64 0, .int .i64 0, .string { data := #[] }] #[.int .i64 0, .int .i64 0, .int .i64 0, .string { data := #[] }] [eqT _, eqT _, eqT _, eqT _, eqT _, eqT _, errT _ _ _ _ i aN, finT _ _ _ _, eqT _, errT _ _ _ _ i aN] (by kernel_rfl) (by kernel_rfl) rfl
    focus
      refine ⟨?_, ?_⟩
      focus
        unfold opGoal
        rw [if_pos (by kernel_rfl)]
        intro x hb hd K hk
        clear hd
        go_wp2_with fail
        exact hk _ _ rfl trivial (StR.refl _ _ _ _ _)
      rintro _ rfl
      simp only [Act.put, List.setIfInBounds_toArray, List.set_cons_succ, List.set_cons_zero]
      refine ⟨?_, ?_⟩
      focus
        unfold opGoal
        rw [if_pos (by kernel_rfl)]
        intro x hb hd K hk
        clear hd
        go_wp2_with fail
        exact hk _ _ rfl trivial (StR.refl _ _ _ _ _)
      rintro _ rfl
      simp only [Act.put, List.setIfInBounds_toArray, List.set_cons_succ, List.set_cons_zero]
      refine ⟨?_, ?_⟩
      focus
        unfold opGoal
        rw [if_pos (by kernel_rfl)]
        intro x hb hd K hk
        clear hd
        go_wp2_with fail
        exact hk _ _ rfl trivial (StR.refl _ _ _ _ _)
      rintro _ rfl
      simp only [Act.put, List.setIfInBounds_toArray, List.set_cons_succ, List.set_cons_zero]
      refine ⟨?_, ?_⟩
      focus
        unfold opGoal
        rw [if_pos (by kernel_rfl)]
        intro x hb hd K hk
        clear hd
        go_wp2_with fail
        exact hk _ _ rfl trivial (StR.refl _ _ _ _ _)
      rintro _ rfl
      simp only [Act.put, List.setIfInBounds_toArray, List.set_cons_succ, List.set_cons_zero]
      refine ⟨?_, ?_⟩
      focus
        unfold opGoal
        rw [if_pos (by kernel_rfl)]
        intro x hb hd K hk
        clear hd
        have l0 := StR.cell hb r1' hne
        go_wp2_with fail
        exact hk _ _ rfl trivial (StR.refl _ _ _ _ _)
      rintro _ rfl
      simp only [Act.put, List.setIfInBounds_toArray, List.set_cons_succ, List.set_cons_zero]
      refine ⟨?_, ?_⟩
      focus
        unfold opGoal
        rw [if_pos (by kernel_rfl)]
        intro x hb hd K hk
        clear hd
        have l0 := StR.cell hb n1 hne2
        go_wp2_with fail
        exact hk _ _ rfl trivial (StR.refl _ _ _ _ _)
      rintro _ rfl
      simp only [Act.put, List.setIfInBounds_toArray, List.set_cons_succ, List.set_cons_zero]
      refine ⟨?_, ?_⟩
      focus
        unfold opGoal
        rw [if_pos (by kernel_rfl)]
        intro x hb hd K hk
        clear hd
        go_wp2_with fail
        refine (Hid.out HF x).mono ?_
        rintro e x' ⟨v, rfl, hv, hb'⟩
        exact hk _ _ trivial (hv.mono (by have := hb.but.size; have := hlt; omega)) (StR.of hb')
      rintro ev -
      simp only [Act.put, List.setIfInBounds_toArray, List.set_cons_succ, List.set_cons_zero]
      refine ⟨?_, ?_⟩
      focus
        unfold opGoal
        rw [if_pos (by kernel_rfl)]
        intro x hb hd K hk
        clear hd
        obtain ⟨e0, e1, e2, e3, hI⟩ := hb.has4 hQ9
        have m0 := hI.cell 0
        have m1 := hI.cell 1
        have m2 := hI.cell 2
        have m3 := hI.cell 3
        have f0 := hI.frozen 0
        have f1 := hI.frozen 1
        have f2 := hI.frozen 2
        have f3 := hI.frozen 3
        have HI := Lib.hid hI
        clear hI
        go_wp2_with fail
        exact hk undef _ trivial (HI.out.set4 _ _ _ _) (StR.put4 HI.out _ _ _ _)
      rintro sv -
      simp only [Act.put, List.setIfInBounds_toArray, List.set_cons_succ, List.set_cons_zero]
      refine ⟨?_, ?_⟩
      focus
        unfold opGoal
        rw [if_pos (by kernel_rfl)]
        intro x hb hd K hk
        clear hd
        go_wp2_with fail
        exact hk _ _ rfl trivial (StR.refl _ _ _ _ _)
      rintro _ rfl
      simp only [Act.put, List.setIfInBounds_toArray, List.set_cons_succ, List.set_cons_zero]
      refine ⟨?_, ?_⟩
      focus
        unfold opGoal
        rw [if_pos (by kernel_rfl)]
        intro x hb hd K hk
        have hE := hd _ (List.mem_cons_self ..) rfl _ _ rfl rfl
        clear hd
        go_wp2_with fail
        exact hk _ _ trivial hE (StR.refl _ _ _ _ _)
      rintro ew -
      simp only [Act.put, List.setIfInBounds_toArray, List.set_cons_succ, List.set_cons_zero]
      intro x hbx hf
      have hQx := hf 7 (finT _ _ _ _) sv (by kernel_rfl) (by kernel_rfl)
      have hEx := hf 9 (errT _ _ _ _ i aN) ew (by kernel_rfl) (by kernel_rfl)
      unfold finT at hQx
      unfold errT at hEx
      simp only at hQx hEx
      have HQX := Lib.hid hQx
      have HEX := Lib.hid hEx
      have HBX := Lib.hid (show Below w.heap.size w x from hB9.trans (hbx.but.below (Nat.le_refl _) hB9.size))
      clear hf hQx hEx hbx hQ9 hB9
      go_wp2_with fail
      have q0 := HQX.out.cell 0
      have q1 := HQX.out.cell 1
      have q2 := HQX.out.cell 2
      have q3 := HQX.out.cell 3
      simp only [List.getElem?_toArray, List.getElem?_cons_zero, List.getElem?_cons_succ] at q0 q1 q2 q3
      refine bodyPost_ret (v := .tuple #[.agg #[.int .i64 0, (.int .i64 0), (.int .i64 0), (.string { data := #[] })], (.int .i64 0), ew]) (by simp [results, Tryd.results71, go_sem, q0, q1, q2, q3]) rfl ?_
      exact ⟨ew, rfl, AtE.of HEX.out haN, HBX.out⟩
  | some k =>
    have hk := bracketA_lt hbk
    rw [hbk] at HBK
    unfold optV at HBK
    replace HS2 := Lib.hid (HS2.out k)
    obtain ⟨ss, hss⟩ : ∃ ss : ByteArray, ss = ⟨(cutL L (i + 1) k).toArray⟩ := ⟨_, rfl⟩
    rw [← hss] at HS2
    have HSS := Lib.hid hss
    clear hbk hss
    go_enter Tryd.func71, Tryd.ntmps71
    go_upto_region 1 with (fail)
    rw [← HW1.out]
    apply wp_region_relA 23 [eqT _, eqT _, eqT _, eqT _, eqT _, eqT _, eqT _, eqT _, eqT _, eqT _, eqT _, eqT _, eqT _, eqT _, eqT _, eqT _, eqT _, eqT _, eqT _, eqT _, eqT _, eqT _, newT 48 #[.int .i64 0, .int .i64 0, .int .i64 0, .string { data := #[] }] w1.heap.size] (by kernel_rfl) (by kernel_rfl) (by kernel_rfl) rfl
    focus
      refine ⟨?_, ?_⟩
      focus
        unfold opGoal
        rw [if_pos (by kernel_rfl)]
        intro x hb hd K hk
        clear hd
        go_wp2_with fail
        exact hk _ _ rfl trivial (Below.refl _ _)
      rintro _ rfl
      simp only [Act.put, List.setIfInBounds_toArray, List.set_cons_succ, List.set_cons_zero]
      refine ⟨?_, ?_⟩
      focus
        unfold opGoal
        rw [if_pos (by kernel_rfl)]
        intro x hb hd K hk
        clear hd
        go_wp2_with fail
        exact hk _ _ rfl trivial (Below.refl _ _)
      rintro _ rfl
      simp only [Act.put, List.setIfInBounds_toArray, List.set_cons_succ, List.set_cons_zero]
      refine ⟨?_, ?_⟩
      focus
        unfold opGoal
        rw [if_pos (by kernel_rfl)]
        intro x hb hd K hk
        clear hd
        go_wp2_with fail
        exact hk _ _ rfl trivial (Below.refl _ _)
      rintro _ rfl
      simp only [Act.put, List.setIfInBounds_toArray, List.set_cons_succ, List.set_cons_zero]
      refine ⟨?_, ?_⟩
      focus
        unfold opGoal
        rw [if_pos (by kernel_rfl)]
        intro x hb hd K hk
        clear hd
        have l0 := cell_keep hb r1
        go_wp2_with fail
        exact hk _ _ rfl trivial (Below.refl _ _)
      rintro _ rfl
      simp only [Act.put, List.setIfInBounds_toArray, List.set_cons_succ, List.set_cons_zero]
      refine ⟨?_, ?_⟩
      focus
        unfold opGoal
        rw [if_pos (by kernel_rfl)]
        intro x hb hd K hk
        clear hd
        go_wp2_with fail
        exact hk _ _ rfl trivial (Below.refl _ _)
      rintro _ rfl
      simp only [Act.put, List.setIfInBounds_toArray, List.set_cons_succ, List.set_cons_zero]
      refine ⟨?_, ?_⟩
      focus
        unfold opGoal
        rw [if_pos (by kernel_rfl)]
        intro x hb hd K hk
        clear hd
        go_wp2_with fail
        exact hk _ _ rfl trivial (Below.refl _ _)
      rintro _ rfl
      simp only [Act.put, List.setIfInBounds_toArray, List.set_cons_succ, List.set_cons_zero]
      refine ⟨?_, ?_⟩
      focus
        unfold opGoal
        rw [if_pos (by kernel_rfl)]
        intro x hb hd K hk
        clear hd
        go_wp2_with fail
        exact hk _ _ rfl trivial (Below.refl _ _)
      rintro _ rfl
      simp only [Act.put, List.setIfInBounds_toArray, List.set_cons_succ, List.set_cons_zero]
      refine ⟨?_, ?_⟩
      focus
        unfold opGoal
        rw [if_pos (by kernel_rfl)]
        intro x hb hd K hk
        clear hd
        have l0 := cell_keep hb r0
        go_wp2_with fail
        exact hk _ _ rfl trivial (Below.refl _ _)
      rintro _ rfl
      simp only [Act.put, List.setIfInBounds_toArray, List.set_cons_succ, List.set_cons_zero]
      refine ⟨?_, ?_⟩
      focus
        unfold opGoal
        rw [if_pos (by kernel_rfl)]
        intro x hb hd K hk
        clear hd
        go_wp2_with fail
        exact hk _ _ rfl trivial (Below.refl _ _)
      rintro _ rfl
      simp only [Act.put, List.setIfInBounds_toArray, List.set_cons_succ, List.set_cons_zero]
      refine ⟨?_, ?_⟩
      focus
        unfold opGoal
        rw [if_pos (by kernel_rfl)]
        intro x hb hd K hk
        clear hd
        go_wp2_with fail
        exact hk _ _ rfl trivial (Below.refl _ _)
      rintro _ rfl
      simp only [Act.put, List.setIfInBounds_toArray, List.set_cons_succ, List.set_cons_zero]
      refine ⟨?_, ?_⟩
      focus
        unfold opGoal
        rw [if_pos (by kernel_rfl)]
        intro x hb hd K hk
        clear hd
        have l0 := cell_keep hb r2
        go_wp2_with fail
        exact hk _ _ rfl trivial (Below.refl _ _)
      rintro _ rfl
      simp only [Act.put, List.setIfInBounds_toArray, List.set_cons_succ, List.set_cons_zero]
      refine ⟨?_, ?_⟩
      focus
        unfold opGoal
        rw [if_pos (by kernel_rfl)]
        intro x hb hd K hk
        clear hd
        go_wp2_with fail
        exact hk _ _ rfl trivial (Below.refl _ _)
      rintro _ rfl
      simp only [Act.put, List.setIfInBounds_toArray, List.set_cons_succ, List.set_cons_zero]
      refine ⟨?_, ?_⟩
      focus
        unfold opGoal
        rw [if_pos (by kernel_rfl)]
        intro x hb hd K hk
        clear hd
        go_wp2_with fail
        exact hk _ _ rfl trivial (Below.refl _ _)
      rintro _ rfl
      simp only [Act.put, List.setIfInBounds_toArray, List.set_cons_succ, List.set_cons_zero]
      refine ⟨?_, ?_⟩
      focus
        unfold opGoal
        rw [if_pos (by kernel_rfl)]
        intro x hb hd K hk
        clear hd
        go_wp2_with fail
        exact hk _ _ rfl trivial (Below.refl _ _)
      rintro _ rfl
      simp only [Act.put, List.setIfInBounds_toArray, List.set_cons_succ, List.set_cons_zero]
      refine ⟨?_, ?_⟩
      focus
        unfold opGoal
        rw [if_pos (by kernel_rfl)]
        intro x hb hd K hk
        clear hd
        have l0 := cell_keep hb r1
        go_wp2_with fail
        exact hk _ _ rfl trivial (Below.refl _ _)
      rintro _ rfl
      simp only [Act.put, List.setIfInBounds_toArray, List.set_cons_succ, List.set_cons_zero]
      refine ⟨?_, ?_⟩
      focus
        unfold opGoal
        rw [if_pos (by kernel_rfl)]
        intro x hb hd K hk
        clear hd
        go_wp2_with fail
        exact hk _ _ rfl trivial (Below.refl _ _)
      rintro _ rfl
      simp only [Act.put, List.setIfInBounds_toArray, List.set_cons_succ, List.set_cons_zero]
      refine ⟨?_, ?_⟩
      focus
        unfold opGoal
        rw [if_pos (by kernel_rfl)]
        intro x hb hd K hk
        clear hd
        go_wp2_with fail
        exact hk _ _ rfl trivial (Below.refl _ _)
      rintro _ rfl
      simp only [Act.put, List.setIfInBounds_toArray, List.set_cons_succ, List.set_cons_zero]
      refine ⟨?_, ?_⟩
      focus
        unfold opGoal
        rw [if_pos (by kernel_rfl)]
        intro x hb hd K hk
        clear hd
        go_wp2_with fail
        exact hk _ _ rfl trivial (Below.refl _ _)
      rintro _ rfl
      simp only [Act.put, List.setIfInBounds_toArray, List.set_cons_succ, List.set_cons_zero]
      refine ⟨?_, ?_⟩
      focus
        unfold opGoal
        rw [if_pos (by kernel_rfl)]
        intro x hb hd K hk
        clear hd
        have l0 := cell_keep hb r1
        go_wp2_with fail
        exact hk _ _ rfl trivial (Below.refl _ _)
      rintro _ rfl
      simp only [Act.put, List.setIfInBounds_toArray, List.set_cons_succ, List.set_cons_zero]
      refine ⟨?_, ?_⟩
      focus
        unfold opGoal
        rw [if_pos (by kernel_rfl)]
        intro x hb hd K hk
        clear hd
        go_wp2_with fail
        exact hk _ _ rfl trivial (Below.refl _ _)
      rintro _ rfl
      simp only [Act.put, List.setIfInBounds_toArray, List.set_cons_succ, List.set_cons_zero]
      refine ⟨?_, ?_⟩
      focus
        unfold opGoal
        rw [if_pos (by kernel_rfl)]
        intro x hb hd K hk
        clear hd
        go_wp2_with fail
        refine (Hid.out HSL x).mono ?_
        rintro e x' ⟨rfl, hb'⟩
        exact hk _ _ rfl trivial hb'
      rintro _ rfl
      simp only [Act.put, List.setIfInBounds_toArray, List.set_cons_succ, List.set_cons_zero]
      refine ⟨?_, ?_⟩
      focus
        unfold opGoal
        rw [if_pos (by kernel_rfl)]
        intro x hb hd K hk
        clear hd
        go_wp2_with fail
        exact hk _ _ rfl trivial (Below.refl _ _)
      rintro _ rfl
      simp only [Act.put, List.setIfInBounds_toArray, List.set_cons_succ, List.set_cons_zero]
      refine ⟨?_, ?_⟩
      focus
        unfold opGoal
        rw [if_pos (by kernel_rfl)]
        intro x hb hd K hk
        clear hd
        go_wp2_with fail
        refine hk _ _ ⟨_, rfl⟩ ?_ ((Below.refl _ _).alloc (Nat.le_refl _) _)
        intro g hg
        injection hg with hg
        injection hg with hg
        injection hg with hg
        subst hg
        exact ⟨Blk.new x _ _, hb.size⟩
      rintro _ ⟨P, rfl⟩
      simp only [Act.put, List.setIfInBounds_toArray, List.set_cons_succ, List.set_cons_zero]
      intro x hbx hf
      simp only [List.drop_succ_cons, List.drop_zero]
      obtain ⟨hPx, hPb⟩ := hf 22 (newT 48 #[.int .i64 0, .int .i64 0, .int .i64 0, .string { data := #[] }] w1.heap.size) (.pointer (some ⟨P, 0, none⟩)) (by kernel_rfl) (by kernel_rfl) P rfl
      clear hf
      have m0 := hPx.cell 0
      have m1 := hPx.cell 1
      have m2 := hPx.cell 2
      have m3 := hPx.cell 3
      have f0 := hPx.frozen 0
      have f1 := hPx.frozen 1
      have f2 := hPx.frozen 2
      have f3 := hPx.frozen 3
      simp only [List.getElem?_toArray, List.getElem?_cons_zero, List.getElem?_cons_succ] at m0 m1 m2 m3
      have HPX := Lib.hid hPx
      clear hPx
      have hPQ : P ≠ w.heap.size := by rw [HZ1.out] at hPb; omega
      have hPb2 : w.heap.size ≤ P := by rw [HZ1.out] at hPb; omega
      have HXB := Lib.hid hbx
      clear hbx r0 r1 r2 HSL
      go_wp2_with fail
      have hP := HPX.out.set4 (.int .i64 1) (.int .i64 i) (.int .i64 0) (.string cs)
      have hQ := (But.set4 P x (.int .i64 1) (.int .i64 i) (.int .i64 0) (.string cs)).blk (HQ1.out.below HXB.out) (fun e => hPQ e.symm)
      have hR := (HR1.out.below HXB.out).set4 HPX.out (.int .i64 1) (.int .i64 i) (.int .i64 0) (.string cs)
      have hbw := below_set4 (HB1.out.trans (HXB.out.mono HB1.out.size)) hPb2 (.int .i64 1) (.int .i64 i) (.int .i64 0) (.string cs)
      generalize (((x.setCell ⟨P, 0, none⟩ (.int .i64 1)).setCell ⟨P, 1, none⟩ (.int .i64 i)).setCell ⟨P, 2, none⟩ (.int .i64 0)).setCell ⟨P, 3, none⟩ (.string cs) = wy at *
      clear m0 m1 m2 m3 f0 f1 f2 f3 HPX HXB HQ1 HR1 HB1 HW1 HZ1 hPb x w1
      have l0 := Later.cell hR.c0
      have l1 := Later.cell hR.c1
      have l2 := Later.cell hR.c2
      have HP := Lib.hid hP
      have HQ := Lib.hid hQ
      have HR := Lib.hid hR
      have HB := Lib.hid hbw
      clear hP hQ hR hbw
      refine wp_region_eq (by kernel_rfl) (by kernel_rfl) ?_
      apply EqGo.run
      focus
        kernel_rfl
      focus
        intro x K hK
        go_wp2_with fail
        first | exact hK x (Below.refl _ _) | exact Below.refl _ _
      simp only [Act.put, List.setIfInBounds_toArray, List.set_cons_succ, List.set_cons_zero]
      apply EqGo.run
      focus
        kernel_rfl
      focus
        intro x K hK
        go_wp2_with fail
        first | exact hK x (Below.refl _ _) | exact Below.refl _ _
      simp only [Act.put, List.setIfInBounds_toArray, List.set_cons_succ, List.set_cons_zero]
      apply EqGo.run
      focus
        kernel_rfl
      focus
        intro x K hK
        go_wp2_with fail
        first | exact hK x (Below.refl _ _) | exact Below.refl _ _
      simp only [Act.put, List.setIfInBounds_toArray, List.set_cons_succ, List.set_cons_zero]
      apply EqGo.run
      focus
        kernel_rfl
      focus
        intro x K hK
        go_wp2_with fail
        first | exact hK x (Below.refl _ _) | exact Below.refl _ _
      simp only [Act.put, List.setIfInBounds_toArray, List.set_cons_succ, List.set_cons_zero]
      apply EqGo.run
      focus
        kernel_rfl
      focus
        intro x K hK
        go_wp2_with fail
        first | exact hK x (Below.refl _ _) | exact Below.refl _ _
      simp only [Act.put, List.setIfInBounds_toArray, List.set_cons_succ, List.set_cons_zero]
      apply EqGo.run
      focus
        kernel_rfl
      focus
        intro x K hK
        go_wp2_with fail
        first | exact hK x (Below.refl _ _) | exact Below.refl _ _
      simp only [Act.put, List.setIfInBounds_toArray, List.set_cons_succ, List.set_cons_zero]
      apply EqGo.run
      focus
        kernel_rfl
      focus
        intro x K hK
        go_wp2_with fail
        first | exact hK x (Below.refl _ _) | exact Below.refl _ _
      simp only [Act.put, List.setIfInBounds_toArray, List.set_cons_succ, List.set_cons_zero]
      apply EqGo.run
      focus
        kernel_rfl
      focus
        intro x K hK
        go_wp2_with fail
        first | exact hK x (Below.refl _ _) | exact Below.refl _ _
      simp only [Act.put, List.setIfInBounds_toArray, List.set_cons_succ, List.set_cons_zero]
      apply EqGo.run
      focus
        kernel_rfl
      focus
        intro x K hK
        go_wp2_with fail
        first | exact hK x (Below.refl _ _) | exact Below.refl _ _
      simp only [Act.put, List.setIfInBounds_toArray, List.set_cons_succ, List.set_cons_zero]
      apply EqGo.run
      focus
        kernel_rfl
      focus
        intro x K hK
        go_wp2_with fail
        first | exact hK x (Below.refl _ _) | exact Below.refl _ _
      simp only [Act.put, List.setIfInBounds_toArray, List.set_cons_succ, List.set_cons_zero]
      apply EqGo.run
      focus
        kernel_rfl
      focus
        intro x K hK
        go_wp2_with fail
        first | exact hK x (Below.refl _ _) | exact Below.refl _ _
      simp only [Act.put, List.setIfInBounds_toArray, List.set_cons_succ, List.set_cons_zero]
      apply EqGo.run
      focus
        kernel_rfl
      focus
        intro x K hK
        go_wp2_with fail
        first | exact hK x (Below.refl _ _) | exact Below.refl _ _
      simp only [Act.put, List.setIfInBounds_toArray, List.set_cons_succ, List.set_cons_zero]
      apply EqGo.run
      focus
        kernel_rfl
      focus
        intro x K hK
        go_wp2_with fail
        refine (Hid.out HBY x.val).mono ?_
        rintro e x' ⟨rfl, hb'⟩
        exact hK ⟨x', x.below.trans (hb'.mono x.below.size)⟩ hb'
      simp only [Act.put, List.setIfInBounds_toArray, List.set_cons_succ, List.set_cons_zero]
      apply EqGo.run
      focus
        kernel_rfl
      focus
        intro x K hK
        go_wp2_with fail
        first | exact hK x (Below.refl _ _) | exact Below.refl _ _
      simp only [Act.put, List.setIfInBounds_toArray, List.set_cons_succ, List.set_cons_zero]
      apply EqGo.run
      focus
        kernel_rfl
      focus
        intro x K hK
        go_wp2_with fail
        first | exact hK x (Below.refl _ _) | exact Below.refl _ _
      simp only [Act.put, List.setIfInBounds_toArray, List.set_cons_succ, List.set_cons_zero]
      apply EqGo.run
      focus
        kernel_rfl
      focus
        intro x K hK
        go_wp2_with fail
        first | exact hK x (Below.refl _ _) | exact Below.refl _ _
      simp only [Act.put, List.setIfInBounds_toArray, List.set_cons_succ, List.set_cons_zero]
      apply EqGo.run
      focus
        kernel_rfl
      focus
        intro x K hK
        go_wp2_with fail
        first | exact hK x (Below.refl _ _) | exact Below.refl _ _
      simp only [Act.put, List.setIfInBounds_toArray, List.set_cons_succ, List.set_cons_zero]
      apply EqGo.run
      focus
        kernel_rfl
      focus
        intro x K hK
        go_wp2_with fail
        first | exact hK x (Below.refl _ _) | exact Below.refl _ _
      simp only [Act.put, List.setIfInBounds_toArray, List.set_cons_succ, List.set_cons_zero]
      intro x
      replace HP := Lib.hid (HP.out.below x.below)
      replace HQ := Lib.hid (HQ.out.below x.below)
      replace HR := Lib.hid (HR.out.below x.below)
      replace HB := Lib.hid (HB.out.trans (x.below.mono HB.out.size))
      clear l0 l1 l2 HBY
      generalize x.val = wx at *
      clear x
      have z0 := HP.out.cell 0
      have z1 := HP.out.cell 1
      have z2 := HP.out.cell 2
      have z3 := HP.out.cell 3
      have y0 := HQ.out.cell 0
      have y1 := HQ.out.cell 1
      have y2 := HQ.out.cell 2
      have y3 := HQ.out.cell 3
      have g0 := HQ.out.frozen 0
      have g1 := HQ.out.frozen 1
      have g2 := HQ.out.frozen 2
      have g3 := HQ.out.frozen 3
      have f0 := HP.out.frozen 0
      have f3 := HP.out.frozen 3
      have r0 := HR.out.c0
      have r1 := HR.out.c1
      have r2 := HR.out.c2
      simp only [List.getElem?_toArray, List.getElem?_cons_zero, List.getElem?_cons_succ] at z0 z1 z2 z3 y0 y1 y2 y3
    have hcs := HCS.out
    subst hcs
    go_wp2_with fail
    refine (HBK.out _ HR.out).mono ?_
    rintro e w9 ⟨rfl, hb9⟩
    have hR9 := HR.out.below hb9
    have hQ9 := HQ.out.below hb9
    have hP9 := HP.out.below hb9
    have hB9 := HB.out.trans (hb9.mono HB.out.size)
    have r0' := hR9.c0
    have r1' := hR9.c1
    have r2' := hR9.c2
    have hne : B ≠ P := Blk.apart hR9.1 hP9 (by decide)
    have hneS : S ≠ P := Blk.apart hR9.2 hP9 (by decide)
    have hneQ : w.heap.size ≠ P := fun e => hPQ e.symm
    have hneB : B ≠ w.heap.size := Blk.apart hR9.1 hQ9 (by decide)
    clear HP HQ HR HB HBK z0 z1 z2 z3 y0 y1 y2 y3 g0 g1 g2 g3 f0 f3 r0 r1 r2 hb9
    go_wp2_with fail
    apply wp_region_stT P 48 #[.int .i64 1, .int .i64 i, .int .i64 0, .string { data := #[91] }] #[.int .i64 3, .int .i64 i, .int .i64 0, .string { data := #[91] }] 16 [eqT _, eqT _, eqT _, eqT _, eqT _, eqT _, eqT _, eqT _, eqT _, eqT _, eqT _, eqT _, eqT _, eqT _, eqT _, finT _ _ _ _] (by kernel_rfl) (by kernel_rfl) (by kernel_rfl) rfl
    focus
      refine ⟨?_, ?_⟩
      focus
        unfold opGoal
        rw [if_pos (by kernel_rfl)]
        intro x hb hd K hk
        clear hd
        go_wp2_with fail
        exact hk _ _ rfl trivial (StR.refl _ _ _ _ _)
      rintro _ rfl
      simp only [Act.put, List.setIfInBounds_toArray, List.set_cons_succ, List.set_cons_zero]
      refine ⟨?_, ?_⟩
      focus
        unfold opGoal
        rw [if_pos (by kernel_rfl)]
        intro x hb hd K hk
        clear hd
        go_wp2_with fail
        exact hk _ _ rfl trivial (StR.refl _ _ _ _ _)
      rintro _ rfl
      simp only [Act.put, List.setIfInBounds_toArray, List.set_cons_succ, List.set_cons_zero]
      refine ⟨?_, ?_⟩
      focus
        unfold opGoal
        rw [if_pos (by kernel_rfl)]
        intro x hb hd K hk
        clear hd
        go_wp2_with fail
        exact hk _ _ rfl trivial (StR.refl _ _ _ _ _)
      rintro _ rfl
      simp only [Act.put, List.setIfInBounds_toArray, List.set_cons_succ, List.set_cons_zero]
      refine ⟨?_, ?_⟩
      focus
        unfold opGoal
        rw [if_pos (by kernel_rfl)]
        intro x hb hd K hk
        clear hd
        have l0 := StR.cell hb r0' hne
        go_wp2_with fail
        exact hk _ _ rfl trivial (StR.refl _ _ _ _ _)
      rintro _ rfl
      simp only [Act.put, List.setIfInBounds_toArray, List.set_cons_succ, List.set_cons_zero]
      refine ⟨?_, ?_⟩
      focus
        unfold opGoal
        rw [if_pos (by kernel_rfl)]
        intro x hb hd K hk
        clear hd
        go_wp2_with fail
        exact hk _ _ rfl trivial (StR.refl _ _ _ _ _)
      rintro _ rfl
      simp only [Act.put, List.setIfInBounds_toArray, List.set_cons_succ, List.set_cons_zero]
      refine ⟨?_, ?_⟩
      focus
        unfold opGoal
        rw [if_pos (by kernel_rfl)]
        intro x hb hd K hk
        clear hd
        go_wp2_with fail
        exact hk _ _ rfl trivial (StR.refl _ _ _ _ _)
      rintro _ rfl
      simp only [Act.put, List.setIfInBounds_toArray, List.set_cons_succ, List.set_cons_zero]
      refine ⟨?_, ?_⟩
      focus
        unfold opGoal
        rw [if_pos (by kernel_rfl)]
        intro x hb hd K hk
        clear hd
        have l0 := StR.cell hb r2' hneS
        go_wp2_with fail
        exact hk _ _ rfl trivial (StR.refl _ _ _ _ _)
      rintro _ rfl
      simp only [Act.put, List.setIfInBounds_toArray, List.set_cons_succ, List.set_cons_zero]
      refine ⟨?_, ?_⟩
      focus
        unfold opGoal
        rw [if_pos (by kernel_rfl)]
        intro x hb hd K hk
        clear hd
        go_wp2_with fail
        exact hk _ _ rfl trivial (StR.refl _ _ _ _ _)
      rintro _ rfl
      simp only [Act.put, List.setIfInBounds_toArray, List.set_cons_succ, List.set_cons_zero]
      refine ⟨?_, ?_⟩
      focus
        unfold opGoal
        rw [if_pos (by kernel_rfl)]
        intro x hb hd K hk
        clear hd
        go_wp2_with fail
        exact hk _ _ rfl trivial (StR.refl _ _ _ _ _)
      rintro _ rfl
      simp only [Act.put, List.setIfInBounds_toArray, List.set_cons_succ, List.set_cons_zero]
      refine ⟨?_, ?_⟩
      focus
        unfold opGoal
        rw [if_pos (by kernel_rfl)]
        intro x hb hd K hk
        clear hd
        go_wp2_with fail
        exact hk _ _ rfl trivial (StR.refl _ _ _ _ _)
      rintro _ rfl
      simp only [Act.put, List.setIfInBounds_toArray, List.set_cons_succ, List.set_cons_zero]
      refine ⟨?_, ?_⟩
      focus
        unfold opGoal
        rw [if_pos (by kernel_rfl)]
        intro x hb hd K hk
        clear hd
        have l0 := StR.cell hb r1' hne
        go_wp2_with fail
        exact hk _ _ rfl trivial (StR.refl _ _ _ _ _)
      rintro _ rfl
      simp only [Act.put, List.setIfInBounds_toArray, List.set_cons_succ, List.set_cons_zero]
      refine ⟨?_, ?_⟩
      focus
        unfold opGoal
        rw [if_pos (by kernel_rfl)]
        intro x hb hd K hk
        clear hd
        go_wp2_with fail
        exact hk _ _ rfl trivial (StR.refl _ _ _ _ _)
      rintro _ rfl
      simp only [Act.put, List.setIfInBounds_toArray, List.set_cons_succ, List.set_cons_zero]
      refine ⟨?_, ?_⟩
      focus
        unfold opGoal
        rw [if_pos (by kernel_rfl)]
        intro x hb hd K hk
        clear hd
        go_wp2_with fail
        exact hk _ _ rfl trivial (StR.refl _ _ _ _ _)
      rintro _ rfl
      simp only [Act.put, List.setIfInBounds_toArray, List.set_cons_succ, List.set_cons_zero]
      refine ⟨?_, ?_⟩
      focus
        unfold opGoal
        rw [if_pos (by kernel_rfl)]
        intro x hb hd K hk
        clear hd
        go_wp2_with fail
        refine (Hid.out HS2 x).mono ?_
        rintro e x' ⟨rfl, hb'⟩
        exact hk _ _ rfl trivial (StR.of hb')
      rintro _ rfl
      simp only [Act.put, List.setIfInBounds_toArray, List.set_cons_succ, List.set_cons_zero]
      refine ⟨?_, ?_⟩
      focus
        unfold opGoal
        rw [if_pos (by kernel_rfl)]
        intro x hb hd K hk
        clear hd
        go_wp2_with fail
        exact hk _ _ rfl trivial (StR.refl _ _ _ _ _)
      rintro _ rfl
      simp only [Act.put, List.setIfInBounds_toArray, List.set_cons_succ, List.set_cons_zero]
      refine ⟨?_, ?_⟩
      focus
        unfold opGoal
        rw [if_pos (by kernel_rfl)]
        intro x hb hd K hk
        clear hd
        have hst := hb.st hP9
        have hH := Lib.hid (StR.to1 0 (.int .i64 3) rfl rfl hst)
        have hz : ∃ u, x.cell? ⟨P, 0, none⟩ = some u := hst.elim (fun h => ⟨_, h.cell 0⟩) fun h => ⟨_, h.cell 0⟩
        have hfz : x.frozen? ⟨P, 0, none⟩ = false := hst.elim (fun h => h.frozen 0) fun h => h.frozen 0
        obtain ⟨u, hz⟩ := hz
        have hR := Lib.hid (StR.put1 (g := P) (t := 48) (ini := #[.int .i64 1, .int .i64 i, .int .i64 0, .string { data := #[91] }]) (fin := #[.int .i64 3, .int .i64 i, .int .i64 0, .string { data := #[91] }]) x 0 (.int .i64 3) rfl rfl)
        clear hst
        go_wp2_with fail
        exact hk undef _ trivial hH.out hR.out
      rintro sv -
      simp only [Act.put, List.setIfInBounds_toArray, List.set_cons_succ, List.set_cons_zero]
      intro x hbx hf
      simp only [List.drop_succ_cons, List.drop_zero]
      have hPx := hf 15 (finT _ _ _ _) sv (by kernel_rfl) (by kernel_rfl)
      clear hf
      unfold finT at hPx
      simp only at hPx
      have hQx := hbx.but.blk hQ9 hneQ
      have hBx := hB9.trans (hbx.but.below hPb2 hB9.size)
      have hcB := hbx.cell r1' hne
      have z3 := hPx.cell 3
      have f3 := hPx.frozen 3
      have HPX := Lib.hid hPx
      simp only [List.getElem?_toArray, List.getElem?_cons_zero, List.getElem?_cons_succ] at z3
      clear hbx hQ9 hB9 hP9 hR9 r0' r1' r2' hPx HS2
      go_wp2_with fail
      have hPc := HPX.out.set 3 (.string ss)
      have hQc := hQx.other (a := ⟨P, 3, none⟩) hneQ (.string ss)
      have hbPc := hBx.setCell (p := ⟨P, 3, none⟩) hPb2 (.string ss)
      have r1' : (x.setCell ⟨P, 3, none⟩ (.string ss)).cell? ⟨B, 1, none⟩ = some (.int .i64 i) := by
        rw [World.cell?_setCell_other _ _ _ _ (by intro h; injection h with h; exact hne h.symm)]
        exact hcB
      simp only [List.setIfInBounds_toArray, List.set_cons_succ, List.set_cons_zero] at hPc
      generalize x.setCell ⟨P, 3, none⟩ (.string ss) = wy at *
      clear z3 f3 HPX hQx hBx hcB
      have z0 := hPc.cell 0
      have z1 := hPc.cell 1
      have z2 := hPc.cell 2
      have z3 := hPc.cell 3
      simp only [List.getElem?_toArray, List.getElem?_cons_zero, List.getElem?_cons_succ] at z0 z1 z2 z3
      have hneP : P ≠ w.heap.size := hPQ
      apply wp_region_st w.heap.size 48 #[.int .i64 0, .int .i64 0, .int .i64 0, .string { data := #[] }] #[.int .i64 3, .int .i64 i, .int .i64 0, .string ss] [eqT _, eqT _, eqT _, eqT _, eqT _, eqT _, eqT _, eqT _, finT _ _ _ _, eqT _, eqT _] (by kernel_rfl) (by kernel_rfl) rfl
      focus
        refine ⟨?_, ?_⟩
        focus
          unfold opGoal
          rw [if_pos (by kernel_rfl)]
          intro x hb hd K hk
          clear hd
          have l0 := StR.cell hb z0 hneP
          have l1 := StR.cell hb z1 hneP
          have l2 := StR.cell hb z2 hneP
          have l3 := StR.cell hb z3 hneP
          go_wp2_with fail
          exact hk _ _ rfl trivial (StR.refl _ _ _ _ _)
        rintro _ rfl
        simp only [Act.put, List.setIfInBounds_toArray, List.set_cons_succ, List.set_cons_zero]
        refine ⟨?_, ?_⟩
        focus
          unfold opGoal
          rw [if_pos (by kernel_rfl)]
          intro x hb hd K hk
          clear hd
          go_wp2_with fail
          exact hk _ _ rfl trivial (StR.refl _ _ _ _ _)
        rintro _ rfl
        simp only [Act.put, List.setIfInBounds_toArray, List.set_cons_succ, List.set_cons_zero]
        refine ⟨?_, ?_⟩
        focus
          unfold opGoal
          rw [if_pos (by kernel_rfl)]
          intro x hb hd K hk
          clear hd
          go_wp2_with fail
          exact hk _ _ rfl trivial (StR.refl _ _ _ _ _)
        rintro _ rfl
        simp only [Act.put, List.setIfInBounds_toArray, List.set_cons_succ, List.set_cons_zero]
        refine ⟨?_, ?_⟩
        focus
          unfold opGoal
          rw [if_pos (by kernel_rfl)]
          intro x hb hd K hk
          clear hd
          go_wp2_with fail
          exact hk _ _ rfl trivial (StR.refl _ _ _ _ _)
        rintro _ rfl
        simp only [Act.put, List.setIfInBounds_toArray, List.set_cons_succ, List.set_cons_zero]
        refine ⟨?_, ?_⟩
        focus
          unfold opGoal
          rw [if_pos (by kernel_rfl)]
          intro x hb hd K hk
          clear hd
          go_wp2_with fail
          exact hk _ _ rfl trivial (StR.refl _ _ _ _ _)
        rintro _ rfl
        simp only [Act.put, List.setIfInBounds_toArray, List.set_cons_succ, List.set_cons_zero]
        refine ⟨?_, ?_⟩
        focus
          unfold opGoal
          rw [if_pos (by kernel_rfl)]
          intro x hb hd K hk
          clear hd
          go_wp2_with fail
          exact hk _ _ rfl trivial (StR.refl _ _ _ _ _)
        rintro _ rfl
        simp only [Act.put, List.setIfInBounds_toArray, List.set_cons_succ, List.set_cons_zero]
        refine ⟨?_, ?_⟩
        focus
          unfold opGoal
          rw [if_pos (by kernel_rfl)]
          intro x hb hd K hk
          clear hd
          have l0 := StR.cell hb r1' hneB
          go_wp2_with fail
          exact hk _ _ rfl trivial (StR.refl _ _ _ _ _)
        rintro _ rfl
        simp only [Act.put, List.setIfInBounds_toArray, List.set_cons_succ, List.set_cons_zero]
        refine ⟨?_, ?_⟩
        focus
          unfold opGoal
          rw [if_pos (by kernel_rfl)]
          intro x hb hd K hk
          clear hd
          go_wp2_with fail
          exact hk _ _ rfl trivial (StR.refl _ _ _ _ _)
        rintro _ rfl
        simp only [Act.put, List.setIfInBounds_toArray, List.set_cons_succ, List.set_cons_zero]
        refine ⟨?_, ?_⟩
        focus
          unfold opGoal
          rw [if_pos (by kernel_rfl)]
          intro x hb hd K hk
          clear hd
          obtain ⟨e0, e1, e2, e3, hI⟩ := hb.has4 hQc
          have m0 := hI.cell 0
          have m1 := hI.cell 1
          have m2 := hI.cell 2
          have m3 := hI.cell 3
          have f0 := hI.frozen 0
          have f1 := hI.frozen 1
          have f2 := hI.frozen 2
          have f3 := hI.frozen 3
          have HI := Lib.hid hI
          clear hI
          go_wp2_with fail
          exact hk undef _ trivial (HI.out.set4 _ _ _ _) (StR.put4 HI.out _ _ _ _)
        rintro sv -
        simp only [Act.put, List.setIfInBounds_toArray, List.set_cons_succ, List.set_cons_zero]
        refine ⟨?_, ?_⟩
        focus
          unfold opGoal
          rw [if_pos (by kernel_rfl)]
          intro x hb hd K hk
          clear hd
          go_wp2_with fail
          exact hk _ _ rfl trivial (StR.refl _ _ _ _ _)
        rintro _ rfl
        simp only [Act.put, List.setIfInBounds_toArray, List.set_cons_succ, List.set_cons_zero]
        refine ⟨?_, ?_⟩
        focus
          unfold opGoal
          rw [if_pos (by kernel_rfl)]
          intro x hb hd K hk
          clear hd
          go_wp2_with fail
          exact hk _ _ rfl trivial (StR.refl _ _ _ _ _)
        rintro _ rfl
        simp only [Act.put, List.setIfInBounds_toArray, List.set_cons_succ, List.set_cons_zero]
        intro x hbx hf
        have hQx := hf 8 (finT _ _ _ _) sv (by kernel_rfl) (by kernel_rfl)
        unfold finT at hQx
        simp only at hQx
        have HQX := Lib.hid hQx
        have HBX := Lib.hid (show Below w.heap.size w x from hbPc.trans (hbx.but.below (Nat.le_refl _) hbPc.size))
        clear hf z0 z1 z2 z3 hQx hbx hPc hQc hbPc
        go_wp2_with fail
        have q0 := HQX.out.cell 0
        have q1 := HQX.out.cell 1
        have q2 := HQX.out.cell 2
        have q3 := HQX.out.cell 3
        simp only [List.getElem?_toArray, List.getElem?_cons_zero, List.getElem?_cons_succ] at q0 q1 q2 q3
        refine bodyPost_ret (v := .tuple #[.agg #[(.int .i64 3), .int .i64 i, (.int .i64 0), (.string ss)], (.int .i64 ((k : Int) + 1 - i)), .nilIface]) (by simp [results, Tryd.results71, go_sem, q0, q1, q2, q3]) rfl (And.intro ?_ HBX.out)
        rw [HSS.out]
        simp
        omega
end Go.Proofs.YtlhpflilpdceiaaDoor
