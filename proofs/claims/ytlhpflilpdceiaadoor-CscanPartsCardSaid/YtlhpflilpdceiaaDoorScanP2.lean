/- The walk over package cscan's part: a dollar. Bounds on the lengths. -/
import Derived.Test.YtlhpflilpdceiaaDoorScanW6
set_option linter.unusedVariables false
set_option linter.unusedSimpArgs false
namespace Go.Proofs.YtlhpflilpdceiaaDoor
open Go.RowKit

set_option maxRecDepth 100000 in
set_option maxHeartbeats 8000000 in
theorem part_dollar_any (B S : Nat) (s : ByteArray) (i : Nat) (Ls : List Addr) (w : World) (h : Rdr w B S s i) (hE : SenW w Ls) (hs : s.size ≤ 1000000) (hi : i < s.size) (hcc : s.data.toList[i]'hi = 36) :
    Calls Tryd.prog 71 #[.pointer (some ⟨B, 0, none⟩)] w (PartRet (partA s.data.toList i) Ls w) := by
  obtain ⟨aN, haN⟩ : ∃ a, Ls[3]? = some a := ⟨Ls[3]'(by rw [hE.len]; decide), List.getElem?_eq_getElem _⟩
  have HN0 := Lib.hid (hE.var 3 _ aN rfl haN)
  have HSE := Lib.hid hE
  clear hE
  obtain ⟨w1, hw1⟩ : ∃ w1, w1 = w.alloc (.cells #[.int .i64 0, .int .i64 0, .int .i64 0, .string { data := #[] }] 48) := ⟨_, rfl⟩
  have hb1 : Below w.heap.size w w1 := by rw [hw1]; exact (Below.refl _ _).alloc (Nat.le_refl _) _
  have hQ1 : Blk w1 w.heap.size 48 #[.int .i64 0, .int .i64 0, .int .i64 0, .string { data := #[] }] := by rw [hw1]; exact Blk.new w _ _
  have HZ1 := Lib.hid (show w1.heap.size = w.heap.size + 1 by rw [hw1]; exact alloc_size _ _)
  have hr1 := h.below hb1
  have r0 := hr1.c0
  have r1 := hr1.c1
  have r2 := hr1.c2
  obtain ⟨L, hL⟩ : ∃ L, L = s.data.toList := ⟨_, rfl⟩
  have hn : L.length = s.size := by rw [hL]; rfl
  have hi' : i < L.length := by omega
  have HSL := Lib.hid (fun W => bslice_any s i (i + 1) W)
  have HBY := Lib.hid (fun W => byte_any s (i + 1) W)
  have HDL := Lib.hid (fun (W : World) (hr : Rdr W B S s i) (he : SenW W Ls) => dollar_any B S s i Ls W hr he hs hi)
  rw [← hL] at HSL HBY HDL ⊢
  rw [cut_one hi'] at HSL
  have HW1 := Lib.hid hw1
  have HQ1 := Lib.hid hQ1
  have HR1 := Lib.hid hr1
  have HB1 := Lib.hid hb1
  have HL := Lib.hid hL
  obtain ⟨c, hc⟩ : ∃ c, c = L[i] := ⟨_, rfl⟩
  rw [← hc] at HSL
  clear hw1 hQ1 hr1 hb1 hL h
  have h36 : c = 36 := by rw [hc]; simpa only [HL.out] using hcc
  rw [partA_dollar hi' (by rw [← hc]; exact h36)]
  obtain ⟨R, hR⟩ : ∃ R, R = dollarL i (L.drop (i + 1)) := ⟨_, rfl⟩
  rw [← hR] at HDL ⊢
  clear hR
  rw [h36] at HSL
  obtain ⟨cs, hcs⟩ : ∃ cs : ByteArray, cs = ⟨#[36]⟩ := ⟨_, rfl⟩
  have hHSL : ∀ W, Calls Tryd.prog 48 #[.agg #[.string s], .int .i64 i, .int .i64 (i + 1)] W (Ret W (.string cs)) := by rw [hcs]; exact HSL.out
  replace HSL := Lib.hid hHSL
  have HCS := Lib.hid hcs
  clear hHSL h36 hc hcs
  unfold byteV at HBY
  generalize decide (i + 1 < L.length) = bb at *
  go_enter Tryd.func71, Tryd.ntmps71
  go_upto_region 1 with (fail)
  rw [← HW1.out]
  apply wp_region_relA 23 [eqT _, eqT _, eqT _, eqT _, eqT _, eqT _, eqT _, eqT _, eqT _, eqT _, eqT _, eqT _, eqT _, eqT _, eqT _, eqT _, eqT _, eqT _, eqT _, eqT _, eqT _, eqT _, newT 48 #[.int .i64 0, .int .i64 0, .int .i64 0, .string { data := #[] }] w1.heap.size] (by kernel_rfl) (by kernel_rfl) (by kernel_rfl) rfl
  focus
    refine ⟨?_, ?_⟩
    focus
      unfold opGoal
      rw [if_pos (by kernel_rfl)]
      intro x hb hd K hk
      clear hd
      go_wp2_with fail
      exact hk _ _ rfl trivial (Below.refl _ _)
    rintro _ rfl
    simp only [Act.put, List.setIfInBounds_toArray, List.set_cons_succ, List.set_cons_zero]
    refine ⟨?_, ?_⟩
    focus
      unfold opGoal
      rw [if_pos (by kernel_rfl)]
      intro x hb hd K hk
      clear hd
      go_wp2_with fail
      exact hk _ _ rfl trivial (Below.refl _ _)
    rintro _ rfl
    simp only [Act.put, List.setIfInBounds_toArray, List.set_cons_succ, List.set_cons_zero]
    refine ⟨?_, ?_⟩
    focus
      unfold opGoal
      rw [if_pos (by kernel_rfl)]
      intro x hb hd K hk
      clear hd
      go_wp2_with fail
      exact hk _ _ rfl trivial (Below.refl _ _)
    rintro _ rfl
    simp only [Act.put, List.setIfInBounds_toArray, List.set_cons_succ, List.set_cons_zero]
    refine ⟨?_, ?_⟩
    focus
      unfold opGoal
      rw [if_pos (by kernel_rfl)]
      intro x hb hd K hk
      clear hd
      have l0 := cell_keep hb r1
      go_wp2_with fail
      exact hk _ _ rfl trivial (Below.refl _ _)
    rintro _ rfl
    simp only [Act.put, List.setIfInBounds_toArray, List.set_cons_succ, List.set_cons_zero]
    refine ⟨?_, ?_⟩
    focus
      unfold opGoal
      rw [if_pos (by kernel_rfl)]
      intro x hb hd K hk
      clear hd
      go_wp2_with fail
      exact hk _ _ rfl trivial (Below.refl _ _)
    rintro _ rfl
    simp only [Act.put, List.setIfInBounds_toArray, List.set_cons_succ, List.set_cons_zero]
    refine ⟨?_, ?_⟩
    focus
      unfold opGoal
      rw [if_pos (by kernel_rfl)]
      intro x hb hd K hk
      clear hd
      go_wp2_with fail
      exact hk _ _ rfl trivial (Below.refl _ _)
    rintro _ rfl
    simp only [Act.put, List.setIfInBounds_toArray, List.set_cons_succ, List.set_cons_zero]
    refine ⟨?_, ?_⟩
    focus
      unfold opGoal
      rw [if_pos (by kernel_rfl)]
      intro x hb hd K hk
      clear hd
      go_wp2_with fail
      exact hk _ _ rfl trivial (Below.refl _ _)
    rintro _ rfl
    simp only [Act.put, List.setIfInBounds_toArray, List.set_cons_succ, List.set_cons_zero]
    refine ⟨?_, ?_⟩
    focus
      unfold opGoal
      rw [if_pos (by kernel_rfl)]
      intro x hb hd K hk
      clear hd
      have l0 := cell_keep hb r0
      go_wp2_with fail
      exact hk _ _ rfl trivial (Below.refl _ _)
    rintro _ rfl
    simp only [Act.put, List.setIfInBounds_toArray, List.set_cons_succ, List.set_cons_zero]
    refine ⟨?_, ?_⟩
    focus
      unfold opGoal
      rw [if_pos (by kernel_rfl)]
      intro x hb hd K hk
      clear hd
      go_wp2_with fail
      exact hk _ _ rfl trivial (Below.refl _ _)
    rintro _ rfl
    simp only [Act.put, List.setIfInBounds_toArray, List.set_cons_succ, List.set_cons_zero]
    refine ⟨?_, ?_⟩
    focus
      unfold opGoal
      rw [if_pos (by kernel_rfl)]
      intro x hb hd K hk
      clear hd
      go_wp2_with fail
      exact hk _ _ rfl trivial (Below.refl _ _)
    rintro _ rfl
    simp only [Act.put, List.setIfInBounds_toArray, List.set_cons_succ, List.set_cons_zero]
    refine ⟨?_, ?_⟩
    focus
      unfold opGoal
      rw [if_pos (by kernel_rfl)]
      intro x hb hd K hk
      clear hd
      have l0 := cell_keep hb r2
      go_wp2_with fail
      exact hk _ _ rfl trivial (Below.refl _ _)
    rintro _ rfl
    simp only [Act.put, List.setIfInBounds_toArray, List.set_cons_succ, List.set_cons_zero]
    refine ⟨?_, ?_⟩
    focus
      unfold opGoal
      rw [if_pos (by kernel_rfl)]
      intro x hb hd K hk
      clear hd
      go_wp2_with fail
      exact hk _ _ rfl trivial (Below.refl _ _)
    rintro _ rfl
    simp only [Act.put, List.setIfInBounds_toArray, List.set_cons_succ, List.set_cons_zero]
    refine ⟨?_, ?_⟩
    focus
      unfold opGoal
      rw [if_pos (by kernel_rfl)]
      intro x hb hd K hk
      clear hd
      go_wp2_with fail
      exact hk _ _ rfl trivial (Below.refl _ _)
    rintro _ rfl
    simp only [Act.put, List.setIfInBounds_toArray, List.set_cons_succ, List.set_cons_zero]
    refine ⟨?_, ?_⟩
    focus
      unfold opGoal
      rw [if_pos (by kernel_rfl)]
      intro x hb hd K hk
      clear hd
      go_wp2_with fail
      exact hk _ _ rfl trivial (Below.refl _ _)
    rintro _ rfl
    simp only [Act.put, List.setIfInBounds_toArray, List.set_cons_succ, List.set_cons_zero]
    refine ⟨?_, ?_⟩
    focus
      unfold opGoal
      rw [if_pos (by kernel_rfl)]
      intro x hb hd K hk
      clear hd
      have l0 := cell_keep hb r1
      go_wp2_with fail
      exact hk _ _ rfl trivial (Below.refl _ _)
    rintro _ rfl
    simp only [Act.put, List.setIfInBounds_toArray, List.set_cons_succ, List.set_cons_zero]
    refine ⟨?_, ?_⟩
    focus
      unfold opGoal
      rw [if_pos (by kernel_rfl)]
      intro x hb hd K hk
      clear hd
      go_wp2_with fail
      exact hk _ _ rfl trivial (Below.refl _ _)
    rintro _ rfl
    simp only [Act.put, List.setIfInBounds_toArray, List.set_cons_succ, List.set_cons_zero]
    refine ⟨?_, ?_⟩
    focus
      unfold opGoal
      rw [if_pos (by kernel_rfl)]
      intro x hb hd K hk
      clear hd
      go_wp2_with fail
      exact hk _ _ rfl trivial (Below.refl _ _)
    rintro _ rfl
    simp only [Act.put, List.setIfInBounds_toArray, List.set_cons_succ, List.set_cons_zero]
    refine ⟨?_, ?_⟩
    focus
      unfold opGoal
      rw [if_pos (by kernel_rfl)]
      intro x hb hd K hk
      clear hd
      go_wp2_with fail
      exact hk _ _ rfl trivial (Below.refl _ _)
    rintro _ rfl
    simp only [Act.put, List.setIfInBounds_toArray, List.set_cons_succ, List.set_cons_zero]
    refine ⟨?_, ?_⟩
    focus
      unfold opGoal
      rw [if_pos (by kernel_rfl)]
      intro x hb hd K hk
      clear hd
      have l0 := cell_keep hb r1
      go_wp2_with fail
      exact hk _ _ rfl trivial (Below.refl _ _)
    rintro _ rfl
    simp only [Act.put, List.setIfInBounds_toArray, List.set_cons_succ, List.set_cons_zero]
    refine ⟨?_, ?_⟩
    focus
      unfold opGoal
      rw [if_pos (by kernel_rfl)]
      intro x hb hd K hk
      clear hd
      go_wp2_with fail
      exact hk _ _ rfl trivial (Below.refl _ _)
    rintro _ rfl
    simp only [Act.put, List.setIfInBounds_toArray, List.set_cons_succ, List.set_cons_zero]
    refine ⟨?_, ?_⟩
    focus
      unfold opGoal
      rw [if_pos (by kernel_rfl)]
      intro x hb hd K hk
      clear hd
      go_wp2_with fail
      refine (Hid.out HSL x).mono ?_
      rintro e x' ⟨rfl, hb'⟩
      exact hk _ _ rfl trivial hb'
    rintro _ rfl
    simp only [Act.put, List.setIfInBounds_toArray, List.set_cons_succ, List.set_cons_zero]
    refine ⟨?_, ?_⟩
    focus
      unfold opGoal
      rw [if_pos (by kernel_rfl)]
      intro x hb hd K hk
      clear hd
      go_wp2_with fail
      exact hk _ _ rfl trivial (Below.refl _ _)
    rintro _ rfl
    simp only [Act.put, List.setIfInBounds_toArray, List.set_cons_succ, List.set_cons_zero]
    refine ⟨?_, ?_⟩
    focus
      unfold opGoal
      rw [if_pos (by kernel_rfl)]
      intro x hb hd K hk
      clear hd
      go_wp2_with fail
      refine hk _ _ ⟨_, rfl⟩ ?_ ((Below.refl _ _).alloc (Nat.le_refl _) _)
      intro g hg
      injection hg with hg
      injection hg with hg
      injection hg with hg
      subst hg
      exact ⟨Blk.new x _ _, hb.size⟩
    rintro _ ⟨P, rfl⟩
    simp only [Act.put, List.setIfInBounds_toArray, List.set_cons_succ, List.set_cons_zero]
    intro x hbx hf
    simp only [List.drop_succ_cons, List.drop_zero]
    obtain ⟨hPx, hPb⟩ := hf 22 (newT 48 #[.int .i64 0, .int .i64 0, .int .i64 0, .string { data := #[] }] w1.heap.size) (.pointer (some ⟨P, 0, none⟩)) (by kernel_rfl) (by kernel_rfl) P rfl
    clear hf
    have m0 := hPx.cell 0
    have m1 := hPx.cell 1
    have m2 := hPx.cell 2
    have m3 := hPx.cell 3
    have f0 := hPx.frozen 0
    have f1 := hPx.frozen 1
    have f2 := hPx.frozen 2
    have f3 := hPx.frozen 3
    simp only [List.getElem?_toArray, List.getElem?_cons_zero, List.getElem?_cons_succ] at m0 m1 m2 m3
    have HPX := Lib.hid hPx
    clear hPx
    have hPQ : P ≠ w.heap.size := by rw [HZ1.out] at hPb; omega
    have hPb2 : w.heap.size ≤ P := by rw [HZ1.out] at hPb; omega
    have HXB := Lib.hid hbx
    clear hbx r0 r1 r2 HSL
    go_wp2_with fail
    have hP := HPX.out.set4 (.int .i64 1) (.int .i64 i) (.int .i64 0) (.string cs)
    have hQ := (But.set4 P x (.int .i64 1) (.int .i64 i) (.int .i64 0) (.string cs)).blk (HQ1.out.below HXB.out) (fun e => hPQ e.symm)
    have hR := (HR1.out.below HXB.out).set4 HPX.out (.int .i64 1) (.int .i64 i) (.int .i64 0) (.string cs)
    have hbw := below_set4 (HB1.out.trans (HXB.out.mono HB1.out.size)) hPb2 (.int .i64 1) (.int .i64 i) (.int .i64 0) (.string cs)
    generalize (((x.setCell ⟨P, 0, none⟩ (.int .i64 1)).setCell ⟨P, 1, none⟩ (.int .i64 i)).setCell ⟨P, 2, none⟩ (.int .i64 0)).setCell ⟨P, 3, none⟩ (.string cs) = wy at *
    clear m0 m1 m2 m3 f0 f1 f2 f3 HPX HXB HQ1 HR1 HB1 HW1 HZ1 hPb x w1
    have l0 := Later.cell hR.c0
    have l1 := Later.cell hR.c1
    have l2 := Later.cell hR.c2
    have HP := Lib.hid hP
    have HQ := Lib.hid hQ
    have HR := Lib.hid hR
    have HB := Lib.hid hbw
    clear hP hQ hR hbw
    refine wp_region_eq (by kernel_rfl) (by kernel_rfl) ?_
    apply EqGo.run
    focus
      kernel_rfl
    focus
      intro x K hK
      go_wp2_with fail
      first | exact hK x (Below.refl _ _) | exact Below.refl _ _
    simp only [Act.put, List.setIfInBounds_toArray, List.set_cons_succ, List.set_cons_zero]
    apply EqGo.run
    focus
      kernel_rfl
    focus
      intro x K hK
      go_wp2_with fail
      first | exact hK x (Below.refl _ _) | exact Below.refl _ _
    simp only [Act.put, List.setIfInBounds_toArray, List.set_cons_succ, List.set_cons_zero]
    apply EqGo.run
    focus
      kernel_rfl
    focus
      intro x K hK
      go_wp2_with fail
      first | exact hK x (Below.refl _ _) | exact Below.refl _ _
    simp only [Act.put, List.setIfInBounds_toArray, List.set_cons_succ, List.set_cons_zero]
    apply EqGo.run
    focus
      kernel_rfl
    focus
      intro x K hK
      go_wp2_with fail
      first | exact hK x (Below.refl _ _) | exact Below.refl _ _
    simp only [Act.put, List.setIfInBounds_toArray, List.set_cons_succ, List.set_cons_zero]
    apply EqGo.run
    focus
      kernel_rfl
    focus
      intro x K hK
      go_wp2_with fail
      first | exact hK x (Below.refl _ _) | exact Below.refl _ _
    simp only [Act.put, List.setIfInBounds_toArray, List.set_cons_succ, List.set_cons_zero]
    apply EqGo.run
    focus
      kernel_rfl
    focus
      intro x K hK
      go_wp2_with fail
      first | exact hK x (Below.refl _ _) | exact Below.refl _ _
    simp only [Act.put, List.setIfInBounds_toArray, List.set_cons_succ, List.set_cons_zero]
    apply EqGo.run
    focus
      kernel_rfl
    focus
      intro x K hK
      go_wp2_with fail
      first | exact hK x (Below.refl _ _) | exact Below.refl _ _
    simp only [Act.put, List.setIfInBounds_toArray, List.set_cons_succ, List.set_cons_zero]
    apply EqGo.run
    focus
      kernel_rfl
    focus
      intro x K hK
      go_wp2_with fail
      first | exact hK x (Below.refl _ _) | exact Below.refl _ _
    simp only [Act.put, List.setIfInBounds_toArray, List.set_cons_succ, List.set_cons_zero]
    apply EqGo.run
    focus
      kernel_rfl
    focus
      intro x K hK
      go_wp2_with fail
      first | exact hK x (Below.refl _ _) | exact Below.refl _ _
    simp only [Act.put, List.setIfInBounds_toArray, List.set_cons_succ, List.set_cons_zero]
    apply EqGo.run
    focus
      kernel_rfl
    focus
      intro x K hK
      go_wp2_with fail
      first | exact hK x (Below.refl _ _) | exact Below.refl _ _
    simp only [Act.put, List.setIfInBounds_toArray, List.set_cons_succ, List.set_cons_zero]
    apply EqGo.run
    focus
      kernel_rfl
    focus
      intro x K hK
      go_wp2_with fail
      first | exact hK x (Below.refl _ _) | exact Below.refl _ _
    simp only [Act.put, List.setIfInBounds_toArray, List.set_cons_succ, List.set_cons_zero]
    apply EqGo.run
    focus
      kernel_rfl
    focus
      intro x K hK
      go_wp2_with fail
      first | exact hK x (Below.refl _ _) | exact Below.refl _ _
    simp only [Act.put, List.setIfInBounds_toArray, List.set_cons_succ, List.set_cons_zero]
    apply EqGo.run
    focus
      kernel_rfl
    focus
      intro x K hK
      go_wp2_with fail
      refine (Hid.out HBY x.val).mono ?_
      rintro e x' ⟨rfl, hb'⟩
      exact hK ⟨x', x.below.trans (hb'.mono x.below.size)⟩ hb'
    simp only [Act.put, List.setIfInBounds_toArray, List.set_cons_succ, List.set_cons_zero]
    apply EqGo.run
    focus
      kernel_rfl
    focus
      intro x K hK
      go_wp2_with fail
      first | exact hK x (Below.refl _ _) | exact Below.refl _ _
    simp only [Act.put, List.setIfInBounds_toArray, List.set_cons_succ, List.set_cons_zero]
    apply EqGo.run
    focus
      kernel_rfl
    focus
      intro x K hK
      go_wp2_with fail
      first | exact hK x (Below.refl _ _) | exact Below.refl _ _
    simp only [Act.put, List.setIfInBounds_toArray, List.set_cons_succ, List.set_cons_zero]
    apply EqGo.run
    focus
      kernel_rfl
    focus
      intro x K hK
      go_wp2_with fail
      first | exact hK x (Below.refl _ _) | exact Below.refl _ _
    simp only [Act.put, List.setIfInBounds_toArray, List.set_cons_succ, List.set_cons_zero]
    apply EqGo.run
    focus
      kernel_rfl
    focus
      intro x K hK
      go_wp2_with fail
      first | exact hK x (Below.refl _ _) | exact Below.refl _ _
    simp only [Act.put, List.setIfInBounds_toArray, List.set_cons_succ, List.set_cons_zero]
    apply EqGo.run
    focus
      kernel_rfl
    focus
      intro x K hK
      go_wp2_with fail
      first | exact hK x (Below.refl _ _) | exact Below.refl _ _
    simp only [Act.put, List.setIfInBounds_toArray, List.set_cons_succ, List.set_cons_zero]
    intro x
    replace HP := Lib.hid (HP.out.below x.below)
    replace HQ := Lib.hid (HQ.out.below x.below)
    replace HR := Lib.hid (HR.out.below x.below)
    replace HB := Lib.hid (HB.out.trans (x.below.mono HB.out.size))
    clear l0 l1 l2 HBY
    generalize x.val = wx at *
    clear x
    have z0 := HP.out.cell 0
    have z1 := HP.out.cell 1
    have z2 := HP.out.cell 2
    have z3 := HP.out.cell 3
    have y0 := HQ.out.cell 0
    have y1 := HQ.out.cell 1
    have y2 := HQ.out.cell 2
    have y3 := HQ.out.cell 3
    have g0 := HQ.out.frozen 0
    have g1 := HQ.out.frozen 1
    have g2 := HQ.out.frozen 2
    have g3 := HQ.out.frozen 3
    have f0 := HP.out.frozen 0
    have f3 := HP.out.frozen 3
    have r0 := HR.out.c0
    have r1 := HR.out.c1
    have r2 := HR.out.c2
    simp only [List.getElem?_toArray, List.getElem?_cons_zero, List.getElem?_cons_succ] at z0 z1 z2 z3 y0 y1 y2 y3
  have hcs := HCS.out
  subst hcs
  go_wp2_with fail
  refine (HDL.out _ HR.out (HSE.out.below HB.out)).mono ?_
  cases R with
  | err k a =>
    rintro e w2 ⟨v, rfl, hE, hb⟩
    replace HQ := Lib.hid (HQ.out.below hb)
    replace HB := Lib.hid (HB.out.trans (hb.mono HB.out.size))
    have HE := Lib.hid hE
    clear hE hb z0 z1 z2 z3 y0 y1 y2 y3 g0 g1 g2 g3 f0 f3 r0 r1 r2
    have y0 := HQ.out.cell 0
    have y1 := HQ.out.cell 1
    have y2 := HQ.out.cell 2
    have y3 := HQ.out.cell 3
    have g0 := HQ.out.frozen 0
    have g1 := HQ.out.frozen 1
    have g2 := HQ.out.frozen 2
    have g3 := HQ.out.frozen 3
    simp only [List.getElem?_toArray, List.getElem?_cons_zero, List.getElem?_cons_succ] at y0 y1 y2 y3
    go_wp2_with fail
    have hQf := HQ.out.set4 (.int .i64 0) (.int .i64 0) (.int .i64 0) (.string { data := #[] })
    have hbf := below_set4 HB.out (Nat.le_refl _) (.int .i64 0) (.int .i64 0) (.int .i64 0) (.string { data := #[] })
    have hef := HE.out.part (But.set4 w.heap.size w2 (.int .i64 0) (.int .i64 0) (.int .i64 0) (.string { data := #[] })) y1
    have q0 := hQf.cell 0
    have q1 := hQf.cell 1
    have q2 := hQf.cell 2
    have q3 := hQf.cell 3
    simp only [List.getElem?_toArray, List.getElem?_cons_zero, List.getElem?_cons_succ] at q0 q1 q2 q3
    refine bodyPost_ret (v := .tuple #[.agg #[.int .i64 0, (.int .i64 0), (.int .i64 0), (.string { data := #[] })], (.int .i64 0), v]) (by simp [results, Tryd.results71, go_sem, q0, q1, q2, q3]) rfl ?_
    exact ⟨v, rfl, hef, hbf⟩
  | ok q n =>
    rintro e w2 ⟨rfl, hb⟩
    replace HQ := Lib.hid (HQ.out.below hb)
    replace HB := Lib.hid (HB.out.trans (hb.mono HB.out.size))
    clear hb z0 z1 z2 z3 y0 y1 y2 y3 g0 g1 g2 g3 f0 f3 r0 r1 r2
    have y0 := HQ.out.cell 0
    have y1 := HQ.out.cell 1
    have y2 := HQ.out.cell 2
    have y3 := HQ.out.cell 3
    have g0 := HQ.out.frozen 0
    have g1 := HQ.out.frozen 1
    have g2 := HQ.out.frozen 2
    have g3 := HQ.out.frozen 3
    simp only [List.getElem?_toArray, List.getElem?_cons_zero, List.getElem?_cons_succ] at y0 y1 y2 y3
    go_wp2_with fail
    have hQf := HQ.out.set4 (.int .i64 q.kind) (.int .i64 q.pos) (.int .i64 q.n) (.string { data := q.s.toArray })
    have hbf := below_set4 HB.out (Nat.le_refl _) (.int .i64 q.kind) (.int .i64 q.pos) (.int .i64 q.n) (.string { data := q.s.toArray })
    have q0 := hQf.cell 0
    have q1 := hQf.cell 1
    have q2 := hQf.cell 2
    have q3 := hQf.cell 3
    simp only [List.getElem?_toArray, List.getElem?_cons_zero, List.getElem?_cons_succ] at q0 q1 q2 q3
    exact bodyPost_ret (v := .tuple #[.agg #[.int .i64 q.kind, .int .i64 q.pos, .int .i64 q.n, .string { data := q.s.toArray }], .int .i64 n, .nilIface]) (by simp [results, Tryd.results71, go_sem, q0, q1, q2, q3]) rfl (And.intro rfl hbf)
end Go.Proofs.YtlhpflilpdceiaaDoor
