/- The walk over package cscan's dollar. Bounds on the lengths. -/
import Derived.Test.YtlhpflilpdceiaaDoorScanS
set_option linter.unusedVariables false
set_option linter.unusedSimpArgs false
namespace Go.Proofs.YtlhpflilpdceiaaDoor
open Go.RowKit

theorem below3 (w : World) (o p : Obj) : Below w.heap.size w ((w.alloc o).alloc p) := ((Below.refl _ _).alloc (Nat.le_refl _) _).alloc (by rw [alloc_size]; omega) _
set_option maxRecDepth 100000 in
set_option maxHeartbeats 4000000 in
theorem dollar_any (B S : Nat) (s : ByteArray) (i : Nat) (Ls : List Addr) (w : World) (h : Rdr w B S s i) (hE : SenW w Ls) (hs : s.size ≤ 1000000) (hi : i < s.size) :
    Calls Tryd.prog 82 #[.pointer (some ⟨B, 0, none⟩), .agg #[.int .i64 1, .int .i64 i, .int .i64 0, .string { data := #[36] }], .int .u8 (cAt s.data.toList (i + 1))] w (PartRet (dollarL i (s.data.toList.drop (i + 1))) Ls w) := by
  obtain ⟨aN, haN⟩ : ∃ a, Ls[5]? = some a := ⟨Ls[5]'(by rw [hE.len]; decide), List.getElem?_eq_getElem _⟩
  have hN := hE.var 5 _ aN rfl haN
  clear hE
  obtain ⟨w2, hw2⟩ : ∃ w2, w2 = (w.alloc (.cells #[.int .i64 1, .int .i64 i, .int .i64 0, .string { data := #[36] }] 48)).alloc (.cells #[.int .i64 0, .int .i64 0, .int .i64 0, .string { data := #[] }] 48) := ⟨_, rfl⟩
  have hb2 : Below w.heap.size w w2 := by rw [hw2]; exact below3 _ _ _
  have hP : Blk w2 w.heap.size 48 #[.int .i64 1, .int .i64 i, .int .i64 0, .string { data := #[36] }] := by
    rw [hw2]
    exact (Blk.new w _ _).below ((Below.refl _ _).alloc (Nat.le_refl _) _)
  have hQ : Blk w2 (w.heap.size + 1) 48 #[.int .i64 0, .int .i64 0, .int .i64 0, .string { data := #[] }] := by
    rw [hw2]
    have := Blk.new (w.alloc (.cells #[.int .i64 1, .int .i64 i, .int .i64 0, .string { data := #[36] }] 48)) 48 #[.int .i64 0, .int .i64 0, .int .i64 0, .string { data := #[] }]
    rwa [alloc_size] at this
  have hr2 := h.below hb2
  have l0 := Later.cell hr2.c0
  have l1 := Later.cell hr2.c1
  have HNM := Lib.hid (fun (W : World) (hb : Below w2.heap.size w2 W) => sname_any s (i + 1) S W (hr2.2.below hb) hs (by omega))
  have HNN := Lib.hid (cell_keep hb2 hN)
  obtain ⟨L, hL⟩ : ∃ L, L = s.data.toList := ⟨_, rfl⟩
  rw [← hL] at HNM ⊢
  obtain ⟨t, ht⟩ : ∃ t, t = L.drop (i + 1) := ⟨_, rfl⟩
  have hc : cAt L (i + 1) = (t.head?.map UInt8.toNat).getD 0 := by rw [ht]; unfold cAt; rw [List.head?_drop]
  rw [← ht] at HNM ⊢
  rw [hc]
  obtain ⟨run, hrun⟩ : ∃ run, run = runL t := ⟨_, rfl⟩
  have hrun2 : run.length ≤ 1000000 := by
    have h1 := runL_le t
    have h2 : t.length = L.length - (i + 1) := by rw [ht, List.length_drop]
    have h3 : L.length = s.size := by rw [hL]; rfl
    rw [hrun]
    omega
  have HOK := Lib.hid (nameOK_run t)
  rw [dollarL_tail]
  rw [← hrun] at HNM HOK ⊢
  obtain ⟨rs, hrs⟩ : ∃ rs : ByteArray, rs = ⟨run.toArray⟩ := ⟨_, rfl⟩
  have HTN := Lib.hid (fun W => tname_any rs W)
  have hrl : rs.data.toList = run := by rw [hrs]
  have hsz : rs.size = run.length := by rw [← hrl]; rfl
  have hem : rs.toList = run := by rw [Lib.toList_data, hrl]
  rw [hrl] at HTN
  rw [← hrs] at HNM
  have HRS := Lib.hid hrs
  have HW2 := Lib.hid hw2
  have HQ := Lib.hid hQ
  have HP := Lib.hid hP
  have HR2 := Lib.hid hr2
  have HB2 := Lib.hid hb2
  have HRUN := Lib.hid hrun
  clear hc ht hL hrun hrs hrl hN h hQ hP hr2 hb2
  by_cases h0 : 0 < run.length
  · have hem2 : rs.toList.isEmpty = false := by rw [hem, List.isEmpty_eq_false_iff]; exact fun e => by rw [e] at h0; cases h0
    rw [if_pos h0]
    rw [HOK.out h0] at HTN
    clear HOK hem
    go_enter Tryd.func82, Tryd.ntmps82
    go_upto_region 1 with (fail)
    rw [← HW2.out]
    refine wp_region_eq (by kernel_rfl) (by kernel_rfl) ?_
    apply EqGo.run
    focus
      kernel_rfl
    focus
      intro x K hK
      go_wp2_with fail
      first | exact hK x (Below.refl _ _) | exact Below.refl _ _
    simp only [Act.put, List.setIfInBounds_toArray, List.set_cons_succ, List.set_cons_zero]
    apply EqGo.run
    focus
      kernel_rfl
    focus
      intro x K hK
      go_wp2_with fail
      first | exact hK x (Below.refl _ _) | exact Below.refl _ _
    simp only [Act.put, List.setIfInBounds_toArray, List.set_cons_succ, List.set_cons_zero]
    apply EqGo.run
    focus
      kernel_rfl
    focus
      intro x K hK
      go_wp2_with fail
      first | exact hK x (Below.refl _ _) | exact Below.refl _ _
    simp only [Act.put, List.setIfInBounds_toArray, List.set_cons_succ, List.set_cons_zero]
    apply EqGo.run
    focus
      kernel_rfl
    focus
      intro x K hK
      go_wp2_with fail
      first | exact hK x (Below.refl _ _) | exact Below.refl _ _
    simp only [Act.put, List.setIfInBounds_toArray, List.set_cons_succ, List.set_cons_zero]
    apply EqGo.run
    focus
      kernel_rfl
    focus
      intro x K hK
      go_wp2_with fail
      first | exact hK x (Below.refl _ _) | exact Below.refl _ _
    simp only [Act.put, List.setIfInBounds_toArray, List.set_cons_succ, List.set_cons_zero]
    apply EqGo.run
    focus
      kernel_rfl
    focus
      intro x K hK
      go_wp2_with fail
      first | exact hK x (Below.refl _ _) | exact Below.refl _ _
    simp only [Act.put, List.setIfInBounds_toArray, List.set_cons_succ, List.set_cons_zero]
    apply EqGo.run
    focus
      kernel_rfl
    focus
      intro x K hK
      go_wp2_with fail
      first | exact hK x (Below.refl _ _) | exact Below.refl _ _
    simp only [Act.put, List.setIfInBounds_toArray, List.set_cons_succ, List.set_cons_zero]
    apply EqGo.run
    focus
      kernel_rfl
    focus
      intro x K hK
      go_wp2_with fail
      first | exact hK x (Below.refl _ _) | exact Below.refl _ _
    simp only [Act.put, List.setIfInBounds_toArray, List.set_cons_succ, List.set_cons_zero]
    apply EqGo.run
    focus
      kernel_rfl
    focus
      intro x K hK
      go_wp2_with fail
      first | exact hK x (Below.refl _ _) | exact Below.refl _ _
    simp only [Act.put, List.setIfInBounds_toArray, List.set_cons_succ, List.set_cons_zero]
    apply EqGo.run
    focus
      kernel_rfl
    focus
      intro x K hK
      go_wp2_with fail
      refine (Hid.out HNM x.val x.below).mono ?_
      rintro e x' ⟨rfl, hb'⟩
      exact hK ⟨x', x.below.trans (hb'.mono x.below.size)⟩ hb'
    simp only [Act.put, List.setIfInBounds_toArray, List.set_cons_succ, List.set_cons_zero]
    apply EqGo.run
    focus
      kernel_rfl
    focus
      intro x K hK
      go_wp2_with fail
      first | exact hK x (Below.refl _ _) | exact Below.refl _ _
    simp only [Act.put, List.setIfInBounds_toArray, List.set_cons_succ, List.set_cons_zero]
    intro x
    have HR3 := Lib.hid (HR2.out.below x.below)
    have HQ3 := Lib.hid (HQ.out.below x.below)
    have HP3 := Lib.hid (HP.out.below x.below)
    have HN3 := Lib.hid (cell_keep x.below HNN.out)
    have HB3 := Lib.hid (HB2.out.trans (x.below.mono HB2.out.size))
    clear HR2 HQ HP HB2 HW2 HNM l0 l1 HNN
    generalize x.val = wx at *
    clear x
    by_cases h20 : run.length ≤ 20
    · rw [if_neg (show ¬ 20 < run.length by omega)]
      rw [decide_eq_true h20] at HTN
      have z0 := HP3.out.cell 0
      have z3 := HP3.out.cell 3
      have f0 := HP3.out.frozen 0
      have f3 := HP3.out.frozen 3
      go_wp2_with fail
      refine (HTN.out _).mono ?_
      rintro e w9 ⟨rfl, rfl⟩
      go_wp2_with fail
      have hPc := (HP3.out.set 0 (.int .i64 2)).set 3 (.string rs)
      have hbPc : Below w.heap.size w ((w9.setCell ⟨w.heap.size, 0, none⟩ (.int .i64 2)).setCell ⟨w.heap.size, 3, none⟩ (.string rs)) := (HB3.out.setCell (Nat.le_refl _) _).setCell (Nat.le_refl _) _
      have hQc := (HQ3.out.other (a := ⟨w.heap.size, 0, none⟩) (by show w.heap.size + 1 ≠ w.heap.size; omega) (.int .i64 2)).other (a := ⟨w.heap.size, 3, none⟩) (by show w.heap.size + 1 ≠ w.heap.size; omega) (.string rs)
      simp only [List.setIfInBounds_toArray, List.set_cons_succ, List.set_cons_zero] at hPc
      generalize (w9.setCell ⟨w.heap.size, 0, none⟩ (.int .i64 2)).setCell ⟨w.heap.size, 3, none⟩ (.string rs) = wy at *
      clear z0 z3 f0 f3 HP3 HQ3 HB3 HR3
      have z0 := hPc.cell 0
      have z1 := hPc.cell 1
      have z2 := hPc.cell 2
      have z3 := hPc.cell 3
      simp only [List.getElem?_toArray, List.getElem?_cons_zero, List.getElem?_cons_succ] at z0 z1 z2 z3
      have hne : w.heap.size ≠ w.heap.size + 1 := by omega
      apply wp_region_st (w.heap.size + 1) 48 #[.int .i64 0, .int .i64 0, .int .i64 0, .string { data := #[] }] #[.int .i64 2, .int .i64 i, .int .i64 0, (.string rs)] [eqT _, eqT _, eqT _, eqT _, eqT _, finT _ _ _ _, eqT _, eqT _] (by kernel_rfl) (by kernel_rfl) rfl
      focus
        refine ⟨?_, ?_⟩
        focus
          unfold opGoal
          rw [if_pos (by kernel_rfl)]
          intro x hb hd K hk
          clear hd
          have l0 := StR.cell hb z0 hne
          have l1 := StR.cell hb z1 hne
          have l2 := StR.cell hb z2 hne
          have l3 := StR.cell hb z3 hne
          go_wp2_with fail
          exact hk _ _ rfl trivial (StR.refl _ _ _ _ _)
        rintro _ rfl
        simp only [Act.put, List.setIfInBounds_toArray, List.set_cons_succ, List.set_cons_zero]
        refine ⟨?_, ?_⟩
        focus
          unfold opGoal
          rw [if_pos (by kernel_rfl)]
          intro x hb hd K hk
          clear hd
          go_wp2_with fail
          exact hk _ _ rfl trivial (StR.refl _ _ _ _ _)
        rintro _ rfl
        simp only [Act.put, List.setIfInBounds_toArray, List.set_cons_succ, List.set_cons_zero]
        refine ⟨?_, ?_⟩
        focus
          unfold opGoal
          rw [if_pos (by kernel_rfl)]
          intro x hb hd K hk
          clear hd
          have l0 := StR.cell hb z3 hne
          go_wp2_with fail
          exact hk _ _ rfl trivial (StR.refl _ _ _ _ _)
        rintro _ rfl
        simp only [Act.put, List.setIfInBounds_toArray, List.set_cons_succ, List.set_cons_zero]
        refine ⟨?_, ?_⟩
        focus
          unfold opGoal
          rw [if_pos (by kernel_rfl)]
          intro x hb hd K hk
          clear hd
          go_wp2_with fail
          exact hk _ _ rfl trivial (StR.refl _ _ _ _ _)
        rintro _ rfl
        simp only [Act.put, List.setIfInBounds_toArray, List.set_cons_succ, List.set_cons_zero]
        refine ⟨?_, ?_⟩
        focus
          unfold opGoal
          rw [if_pos (by kernel_rfl)]
          intro x hb hd K hk
          clear hd
          go_wp2_with fail
          exact hk _ _ rfl trivial (StR.refl _ _ _ _ _)
        rintro _ rfl
        simp only [Act.put, List.setIfInBounds_toArray, List.set_cons_succ, List.set_cons_zero]
        refine ⟨?_, ?_⟩
        focus
          unfold opGoal
          rw [if_pos (by kernel_rfl)]
          intro x hb hd K hk
          clear hd
          obtain ⟨e0, e1, e2, e3, hI⟩ := hb.has4 hQc
          have m0 := hI.cell 0
          have m1 := hI.cell 1
          have m2 := hI.cell 2
          have m3 := hI.cell 3
          have f0 := hI.frozen 0
          have f1 := hI.frozen 1
          have f2 := hI.frozen 2
          have f3 := hI.frozen 3
          have HI := Lib.hid hI
          clear hI
          go_wp2_with fail
          exact hk undef _ trivial (HI.out.set4 _ _ _ _) (StR.put4 HI.out _ _ _ _)
        rintro sv -
        simp only [Act.put, List.setIfInBounds_toArray, List.set_cons_succ, List.set_cons_zero]
        refine ⟨?_, ?_⟩
        focus
          unfold opGoal
          rw [if_pos (by kernel_rfl)]
          intro x hb hd K hk
          clear hd
          go_wp2_with fail
          exact hk _ _ rfl trivial (StR.refl _ _ _ _ _)
        rintro _ rfl
        simp only [Act.put, List.setIfInBounds_toArray, List.set_cons_succ, List.set_cons_zero]
        refine ⟨?_, ?_⟩
        focus
          unfold opGoal
          rw [if_pos (by kernel_rfl)]
          intro x hb hd K hk
          clear hd
          go_wp2_with fail
          exact hk _ _ rfl trivial (StR.refl _ _ _ _ _)
        rintro _ rfl
        simp only [Act.put, List.setIfInBounds_toArray, List.set_cons_succ, List.set_cons_zero]
        intro x hbx hf
        have hQx := hf 5 _ _ rfl rfl
        unfold finT at hQx
        simp only at hQx
        have HQX := Lib.hid hQx
        have HBX := Lib.hid (show Below w.heap.size w x from hbPc.trans (hbx.but.below (by omega) hbPc.size))
        clear hf z0 z1 z2 z3 hQx hbx hPc hQc hbPc
        go_wp2_with fail
        have q0 := HQX.out.cell 0
        have q1 := HQX.out.cell 1
        have q2 := HQX.out.cell 2
        have q3 := HQX.out.cell 3
        simp only [List.getElem?_toArray, List.getElem?_cons_zero, List.getElem?_cons_succ] at q0 q1 q2 q3
        refine bodyPost_ret (v := .tuple #[.agg #[(.int .i64 2), .int .i64 i, (.int .i64 0), (.string rs)], (.int .i64 (1 + run.length)), .nilIface]) (by simp [results, Tryd.results82, go_sem, q0, q1, q2, q3]) rfl (And.intro ?_ HBX.out)
        first | rfl | (rw [HRS.out]; rfl) | (rw [HRS.out]; simp; done) | (simp; done) | (simp; omega)
    · rw [if_pos (show 20 < run.length by omega)]
      rw [decide_eq_false h20] at HTN
      go_wp2_with fail
      refine (HTN.out _).mono ?_
      rintro e w9 ⟨rfl, rfl⟩
      have r1 := HR3.out.c1
      have n1 := HN3.out
      have hQc := HQ3.out
      have hB9 := HB3.out
      have hlt := hQc.lt
      have HF := Lib.hid (fun W => cfault_any i aN W)
      clear HP3 HQ3 HB3
      go_wp2_with fail
      have hne : B ≠ w.heap.size + 1 := by
        have := HR3.out
        intro e
        exact Blk.apart this.1 hQc (by decide) e
      have hne2 : 6 ≠ w.heap.size + 1 := by
        intro e
        have h0 := hQc.cell 0
        rw [← e, n1] at h0
        cases h0
      apply wp_region_st (w.heap.size + 1) 48 #[.int .i64 0, .int .i64 0, .int .i64 0, .string { data := #[] }] #[.int .i64 0, .int .i64 0, .int .i64 0, .string { data := #[] }] [eqT _, eqT _, eqT _, eqT _, eqT _, eqT _, errT _ _ _ _ i aN, finT _ _ _ _, eqT _, errT _ _ _ _ i aN] (by kernel_rfl) (by kernel_rfl) rfl
      focus
        refine ⟨?_, ?_⟩
        focus
          unfold opGoal
          rw [if_pos (by kernel_rfl)]
          intro x hb hd K hk
          clear hd
          go_wp2_with fail
          exact hk _ _ rfl trivial (StR.refl _ _ _ _ _)
        rintro _ rfl
        simp only [Act.put, List.setIfInBounds_toArray, List.set_cons_succ, List.set_cons_zero]
        refine ⟨?_, ?_⟩
        focus
          unfold opGoal
          rw [if_pos (by kernel_rfl)]
          intro x hb hd K hk
          clear hd
          go_wp2_with fail
          exact hk _ _ rfl trivial (StR.refl _ _ _ _ _)
        rintro _ rfl
        simp only [Act.put, List.setIfInBounds_toArray, List.set_cons_succ, List.set_cons_zero]
        refine ⟨?_, ?_⟩
        focus
          unfold opGoal
          rw [if_pos (by kernel_rfl)]
          intro x hb hd K hk
          clear hd
          go_wp2_with fail
          exact hk _ _ rfl trivial (StR.refl _ _ _ _ _)
        rintro _ rfl
        simp only [Act.put, List.setIfInBounds_toArray, List.set_cons_succ, List.set_cons_zero]
        refine ⟨?_, ?_⟩
        focus
          unfold opGoal
          rw [if_pos (by kernel_rfl)]
          intro x hb hd K hk
          clear hd
          go_wp2_with fail
          exact hk _ _ rfl trivial (StR.refl _ _ _ _ _)
        rintro _ rfl
        simp only [Act.put, List.setIfInBounds_toArray, List.set_cons_succ, List.set_cons_zero]
        refine ⟨?_, ?_⟩
        focus
          unfold opGoal
          rw [if_pos (by kernel_rfl)]
          intro x hb hd K hk
          clear hd
          have l0 := StR.cell hb r1 hne
          go_wp2_with fail
          exact hk _ _ rfl trivial (StR.refl _ _ _ _ _)
        rintro _ rfl
        simp only [Act.put, List.setIfInBounds_toArray, List.set_cons_succ, List.set_cons_zero]
        refine ⟨?_, ?_⟩
        focus
          unfold opGoal
          rw [if_pos (by kernel_rfl)]
          intro x hb hd K hk
          clear hd
          have l0 := StR.cell hb n1 hne2
          go_wp2_with fail
          exact hk _ _ rfl trivial (StR.refl _ _ _ _ _)
        rintro _ rfl
        simp only [Act.put, List.setIfInBounds_toArray, List.set_cons_succ, List.set_cons_zero]
        refine ⟨?_, ?_⟩
        focus
          unfold opGoal
          rw [if_pos (by kernel_rfl)]
          intro x hb hd K hk
          clear hd
          go_wp2_with fail
          refine (Hid.out HF x).mono ?_
          rintro e x' ⟨v, rfl, hv, hb'⟩
          exact hk _ _ trivial (hv.mono (by have := hb.but.size; have := hlt; omega)) (StR.of hb')
        rintro ev -
        simp only [Act.put, List.setIfInBounds_toArray, List.set_cons_succ, List.set_cons_zero]
        refine ⟨?_, ?_⟩
        focus
          unfold opGoal
          rw [if_pos (by kernel_rfl)]
          intro x hb hd K hk
          clear hd
          obtain ⟨e0, e1, e2, e3, hI⟩ := hb.has4 hQc
          have m0 := hI.cell 0
          have m1 := hI.cell 1
          have m2 := hI.cell 2
          have m3 := hI.cell 3
          have f0 := hI.frozen 0
          have f1 := hI.frozen 1
          have f2 := hI.frozen 2
          have f3 := hI.frozen 3
          have HI := Lib.hid hI
          clear hI
          go_wp2_with fail
          exact hk undef _ trivial (HI.out.set4 _ _ _ _) (StR.put4 HI.out _ _ _ _)
        rintro sv -
        simp only [Act.put, List.setIfInBounds_toArray, List.set_cons_succ, List.set_cons_zero]
        refine ⟨?_, ?_⟩
        focus
          unfold opGoal
          rw [if_pos (by kernel_rfl)]
          intro x hb hd K hk
          clear hd
          go_wp2_with fail
          exact hk _ _ rfl trivial (StR.refl _ _ _ _ _)
        rintro _ rfl
        simp only [Act.put, List.setIfInBounds_toArray, List.set_cons_succ, List.set_cons_zero]
        refine ⟨?_, ?_⟩
        focus
          unfold opGoal
          rw [if_pos (by kernel_rfl)]
          intro x hb hd K hk
          have hE := hd _ (List.mem_cons_self ..) rfl _ _ rfl rfl
          clear hd
          go_wp2_with fail
          exact hk _ _ trivial hE (StR.refl _ _ _ _ _)
        rintro ew -
        simp only [Act.put, List.setIfInBounds_toArray, List.set_cons_succ, List.set_cons_zero]
        intro x hbx hf
        have hQx := hf 7 _ _ rfl rfl
        have hEx := hf 9 _ _ rfl rfl
        unfold finT at hQx
        unfold errT at hEx
        simp only at hQx hEx
        have HQX := Lib.hid hQx
        have HEX := Lib.hid hEx
        have HBX := Lib.hid (show Below w.heap.size w x from hB9.trans (hbx.but.below (by omega) hB9.size))
        clear hf hQx hEx hbx hQc hB9
        go_wp2_with fail
        have q0 := HQX.out.cell 0
        have q1 := HQX.out.cell 1
        have q2 := HQX.out.cell 2
        have q3 := HQX.out.cell 3
        simp only [List.getElem?_toArray, List.getElem?_cons_zero, List.getElem?_cons_succ] at q0 q1 q2 q3
        exact bodyPost_ret (v := .tuple #[.agg #[.int .i64 0, .int .i64 0, .int .i64 0, .string { data := #[] }], .int .i64 0, ew]) (by simp [results, Tryd.results82, go_sem, q0, q1, q2, q3]) rfl ⟨ew, rfl, AtE.of HEX.out haN, HBX.out⟩
  · rw [if_neg h0]
    have hr0 : run = [] := List.eq_nil_of_length_eq_zero (by omega)
    have hem2 : rs.toList.isEmpty = true := by rw [hem, hr0]; rfl
    clear HOK hem HTN hsz
    obtain ⟨d, hd⟩ : ∃ d, d = (t.head?.map UInt8.toNat).getD 0 := ⟨_, rfl⟩
    rw [← hd]
    by_cases h42 : d = 42
    · have HT := Lib.hid (dolTail_star (i := i) hd h42)
      rw [HT.out]
      clear hd HT
      subst h42
      go_enter Tryd.func82, Tryd.ntmps82
      go_upto_region 1 with (fail)
      rw [← HW2.out]
      refine wp_region_eq (by kernel_rfl) (by kernel_rfl) ?_
      apply EqGo.run
      focus
        kernel_rfl
      focus
        intro x K hK
        go_wp2_with fail
        first | exact hK x (Below.refl _ _) | exact Below.refl _ _
      simp only [Act.put, List.setIfInBounds_toArray, List.set_cons_succ, List.set_cons_zero]
      apply EqGo.run
      focus
        kernel_rfl
      focus
        intro x K hK
        go_wp2_with fail
        first | exact hK x (Below.refl _ _) | exact Below.refl _ _
      simp only [Act.put, List.setIfInBounds_toArray, List.set_cons_succ, List.set_cons_zero]
      apply EqGo.run
      focus
        kernel_rfl
      focus
        intro x K hK
        go_wp2_with fail
        first | exact hK x (Below.refl _ _) | exact Below.refl _ _
      simp only [Act.put, List.setIfInBounds_toArray, List.set_cons_succ, List.set_cons_zero]
      apply EqGo.run
      focus
        kernel_rfl
      focus
        intro x K hK
        go_wp2_with fail
        first | exact hK x (Below.refl _ _) | exact Below.refl _ _
      simp only [Act.put, List.setIfInBounds_toArray, List.set_cons_succ, List.set_cons_zero]
      apply EqGo.run
      focus
        kernel_rfl
      focus
        intro x K hK
        go_wp2_with fail
        first | exact hK x (Below.refl _ _) | exact Below.refl _ _
      simp only [Act.put, List.setIfInBounds_toArray, List.set_cons_succ, List.set_cons_zero]
      apply EqGo.run
      focus
        kernel_rfl
      focus
        intro x K hK
        go_wp2_with fail
        first | exact hK x (Below.refl _ _) | exact Below.refl _ _
      simp only [Act.put, List.setIfInBounds_toArray, List.set_cons_succ, List.set_cons_zero]
      apply EqGo.run
      focus
        kernel_rfl
      focus
        intro x K hK
        go_wp2_with fail
        first | exact hK x (Below.refl _ _) | exact Below.refl _ _
      simp only [Act.put, List.setIfInBounds_toArray, List.set_cons_succ, List.set_cons_zero]
      apply EqGo.run
      focus
        kernel_rfl
      focus
        intro x K hK
        go_wp2_with fail
        first | exact hK x (Below.refl _ _) | exact Below.refl _ _
      simp only [Act.put, List.setIfInBounds_toArray, List.set_cons_succ, List.set_cons_zero]
      apply EqGo.run
      focus
        kernel_rfl
      focus
        intro x K hK
        go_wp2_with fail
        first | exact hK x (Below.refl _ _) | exact Below.refl _ _
      simp only [Act.put, List.setIfInBounds_toArray, List.set_cons_succ, List.set_cons_zero]
      apply EqGo.run
      focus
        kernel_rfl
      focus
        intro x K hK
        go_wp2_with fail
        refine (Hid.out HNM x.val x.below).mono ?_
        rintro e x' ⟨rfl, hb'⟩
        exact hK ⟨x', x.below.trans (hb'.mono x.below.size)⟩ hb'
      simp only [Act.put, List.setIfInBounds_toArray, List.set_cons_succ, List.set_cons_zero]
      apply EqGo.run
      focus
        kernel_rfl
      focus
        intro x K hK
        go_wp2_with fail
        first | exact hK x (Below.refl _ _) | exact Below.refl _ _
      simp only [Act.put, List.setIfInBounds_toArray, List.set_cons_succ, List.set_cons_zero]
      intro x
      have HR3 := Lib.hid (HR2.out.below x.below)
      have HQ3 := Lib.hid (HQ.out.below x.below)
      have HP3 := Lib.hid (HP.out.below x.below)
      have HB3 := Lib.hid (HB2.out.trans (x.below.mono HB2.out.size))
      clear HR2 HQ HP HB2 HW2 HNM l0 l1 HNN
      generalize x.val = wx at *
      clear x
      have z0 := HP3.out.cell 0
      have z1 := HP3.out.cell 1
      have z2 := HP3.out.cell 2
      have z3 := HP3.out.cell 3
      have f0 := HP3.out.frozen 0
      have f2 := HP3.out.frozen 2
      have f3 := HP3.out.frozen 3
      have y0 := HQ3.out.cell 0
      have y1 := HQ3.out.cell 1
      have y2 := HQ3.out.cell 2
      have y3 := HQ3.out.cell 3
      have g0 := HQ3.out.frozen 0
      have g1 := HQ3.out.frozen 1
      have g2 := HQ3.out.frozen 2
      have g3 := HQ3.out.frozen 3
      go_wp2_with fail
      have hPc := (HP3.out.set 0 (.int .i64 2)).set 3 (.string { data := #[42] })
      have hbPc : Below w.heap.size w ((wx.setCell ⟨w.heap.size, 0, none⟩ (.int .i64 2)).setCell ⟨w.heap.size, 3, none⟩ (.string { data := #[42] })) := (HB3.out.setCell (Nat.le_refl _) _).setCell (Nat.le_refl _) _
      have hQc := (HQ3.out.other (a := ⟨w.heap.size, 0, none⟩) (by show w.heap.size + 1 ≠ w.heap.size; omega) (.int .i64 2)).other (a := ⟨w.heap.size, 3, none⟩) (by show w.heap.size + 1 ≠ w.heap.size; omega) (.string { data := #[42] })
      simp only [List.setIfInBounds_toArray, List.set_cons_succ, List.set_cons_zero] at hPc
      generalize (wx.setCell ⟨w.heap.size, 0, none⟩ (.int .i64 2)).setCell ⟨w.heap.size, 3, none⟩ (.string { data := #[42] }) = wy at *
      clear z0 z1 z2 z3 f0 f2 f3 y0 y1 y2 y3 g0 g1 g2 g3 HP3 HQ3 HB3 HR3
      have z0 := hPc.cell 0
      have z1 := hPc.cell 1
      have z2 := hPc.cell 2
      have z3 := hPc.cell 3
      simp only [List.getElem?_toArray, List.getElem?_cons_zero, List.getElem?_cons_succ] at z0 z1 z2 z3
      have hne : w.heap.size ≠ w.heap.size + 1 := by omega
      apply wp_region_st (w.heap.size + 1) 48 #[.int .i64 0, .int .i64 0, .int .i64 0, .string { data := #[] }] #[.int .i64 2, .int .i64 i, .int .i64 0, (.string { data := #[42] })] [eqT _, eqT _, eqT _, eqT _, eqT _, finT _ _ _ _, eqT _, eqT _] (by kernel_rfl) (by kernel_rfl) rfl
      focus
        refine ⟨?_, ?_⟩
        focus
          unfold opGoal
          rw [if_pos (by kernel_rfl)]
          intro x hb hd K hk
          clear hd
          have l0 := StR.cell hb z0 hne
          have l1 := StR.cell hb z1 hne
          have l2 := StR.cell hb z2 hne
          have l3 := StR.cell hb z3 hne
          go_wp2_with fail
          exact hk _ _ rfl trivial (StR.refl _ _ _ _ _)
        rintro _ rfl
        simp only [Act.put, List.setIfInBounds_toArray, List.set_cons_succ, List.set_cons_zero]
        refine ⟨?_, ?_⟩
        focus
          unfold opGoal
          rw [if_pos (by kernel_rfl)]
          intro x hb hd K hk
          clear hd
          go_wp2_with fail
          exact hk _ _ rfl trivial (StR.refl _ _ _ _ _)
        rintro _ rfl
        simp only [Act.put, List.setIfInBounds_toArray, List.set_cons_succ, List.set_cons_zero]
        refine ⟨?_, ?_⟩
        focus
          unfold opGoal
          rw [if_pos (by kernel_rfl)]
          intro x hb hd K hk
          clear hd
          have l0 := StR.cell hb z3 hne
          go_wp2_with fail
          exact hk _ _ rfl trivial (StR.refl _ _ _ _ _)
        rintro _ rfl
        simp only [Act.put, List.setIfInBounds_toArray, List.set_cons_succ, List.set_cons_zero]
        refine ⟨?_, ?_⟩
        focus
          unfold opGoal
          rw [if_pos (by kernel_rfl)]
          intro x hb hd K hk
          clear hd
          go_wp2_with fail
          exact hk _ _ rfl trivial (StR.refl _ _ _ _ _)
        rintro _ rfl
        simp only [Act.put, List.setIfInBounds_toArray, List.set_cons_succ, List.set_cons_zero]
        refine ⟨?_, ?_⟩
        focus
          unfold opGoal
          rw [if_pos (by kernel_rfl)]
          intro x hb hd K hk
          clear hd
          go_wp2_with fail
          exact hk _ _ rfl trivial (StR.refl _ _ _ _ _)
        rintro _ rfl
        simp only [Act.put, List.setIfInBounds_toArray, List.set_cons_succ, List.set_cons_zero]
        refine ⟨?_, ?_⟩
        focus
          unfold opGoal
          rw [if_pos (by kernel_rfl)]
          intro x hb hd K hk
          clear hd
          obtain ⟨e0, e1, e2, e3, hI⟩ := hb.has4 hQc
          have m0 := hI.cell 0
          have m1 := hI.cell 1
          have m2 := hI.cell 2
          have m3 := hI.cell 3
          have f0 := hI.frozen 0
          have f1 := hI.frozen 1
          have f2 := hI.frozen 2
          have f3 := hI.frozen 3
          have HI := Lib.hid hI
          clear hI
          go_wp2_with fail
          exact hk undef _ trivial (HI.out.set4 _ _ _ _) (StR.put4 HI.out _ _ _ _)
        rintro sv -
        simp only [Act.put, List.setIfInBounds_toArray, List.set_cons_succ, List.set_cons_zero]
        refine ⟨?_, ?_⟩
        focus
          unfold opGoal
          rw [if_pos (by kernel_rfl)]
          intro x hb hd K hk
          clear hd
          go_wp2_with fail
          exact hk _ _ rfl trivial (StR.refl _ _ _ _ _)
        rintro _ rfl
        simp only [Act.put, List.setIfInBounds_toArray, List.set_cons_succ, List.set_cons_zero]
        refine ⟨?_, ?_⟩
        focus
          unfold opGoal
          rw [if_pos (by kernel_rfl)]
          intro x hb hd K hk
          clear hd
          go_wp2_with fail
          exact hk _ _ rfl trivial (StR.refl _ _ _ _ _)
        rintro _ rfl
        simp only [Act.put, List.setIfInBounds_toArray, List.set_cons_succ, List.set_cons_zero]
        intro x hbx hf
        have hQx := hf 5 _ _ rfl rfl
        unfold finT at hQx
        simp only at hQx
        have HQX := Lib.hid hQx
        have HBX := Lib.hid (show Below w.heap.size w x from hbPc.trans (hbx.but.below (by omega) hbPc.size))
        clear hf z0 z1 z2 z3 hQx hbx hPc hQc hbPc
        go_wp2_with fail
        have q0 := HQX.out.cell 0
        have q1 := HQX.out.cell 1
        have q2 := HQX.out.cell 2
        have q3 := HQX.out.cell 3
        simp only [List.getElem?_toArray, List.getElem?_cons_zero, List.getElem?_cons_succ] at q0 q1 q2 q3
        refine bodyPost_ret (v := .tuple #[.agg #[(.int .i64 2), .int .i64 i, (.int .i64 0), (.string { data := #[42] })], (.int .i64 2), .nilIface]) (by simp [results, Tryd.results82, go_sem, q0, q1, q2, q3]) rfl (And.intro ?_ HBX.out)
        first | rfl | (rw [HRS.out]; rfl) | (rw [HRS.out]; simp; done) | (simp; done) | (simp; omega)
    · by_cases hdg : 49 ≤ d ∧ d ≤ 57
      · have HT := Lib.hid (dolTail_dig (i := i) hd h42 hdg)
        rw [HT.out]
        clear hd HT
        obtain ⟨hd1, hd2⟩ := hdg
        have h42' : ¬ (d : Int) = 42 := by omega
        go_enter Tryd.func82, Tryd.ntmps82
        go_upto_region 1 with (fail)
        rw [← HW2.out]
        refine wp_region_eq (by kernel_rfl) (by kernel_rfl) ?_
        apply EqGo.run
        focus
          kernel_rfl
        focus
          intro x K hK
          go_wp2_with fail
          first | exact hK x (Below.refl _ _) | exact Below.refl _ _
        simp only [Act.put, List.setIfInBounds_toArray, List.set_cons_succ, List.set_cons_zero]
        apply EqGo.run
        focus
          kernel_rfl
        focus
          intro x K hK
          go_wp2_with fail
          first | exact hK x (Below.refl _ _) | exact Below.refl _ _
        simp only [Act.put, List.setIfInBounds_toArray, List.set_cons_succ, List.set_cons_zero]
        apply EqGo.run
        focus
          kernel_rfl
        focus
          intro x K hK
          go_wp2_with fail
          first | exact hK x (Below.refl _ _) | exact Below.refl _ _
        simp only [Act.put, List.setIfInBounds_toArray, List.set_cons_succ, List.set_cons_zero]
        apply EqGo.run
        focus
          kernel_rfl
        focus
          intro x K hK
          go_wp2_with fail
          first | exact hK x (Below.refl _ _) | exact Below.refl _ _
        simp only [Act.put, List.setIfInBounds_toArray, List.set_cons_succ, List.set_cons_zero]
        apply EqGo.run
        focus
          kernel_rfl
        focus
          intro x K hK
          go_wp2_with fail
          first | exact hK x (Below.refl _ _) | exact Below.refl _ _
        simp only [Act.put, List.setIfInBounds_toArray, List.set_cons_succ, List.set_cons_zero]
        apply EqGo.run
        focus
          kernel_rfl
        focus
          intro x K hK
          go_wp2_with fail
          first | exact hK x (Below.refl _ _) | exact Below.refl _ _
        simp only [Act.put, List.setIfInBounds_toArray, List.set_cons_succ, List.set_cons_zero]
        apply EqGo.run
        focus
          kernel_rfl
        focus
          intro x K hK
          go_wp2_with fail
          first | exact hK x (Below.refl _ _) | exact Below.refl _ _
        simp only [Act.put, List.setIfInBounds_toArray, List.set_cons_succ, List.set_cons_zero]
        apply EqGo.run
        focus
          kernel_rfl
        focus
          intro x K hK
          go_wp2_with fail
          first | exact hK x (Below.refl _ _) | exact Below.refl _ _
        simp only [Act.put, List.setIfInBounds_toArray, List.set_cons_succ, List.set_cons_zero]
        apply EqGo.run
        focus
          kernel_rfl
        focus
          intro x K hK
          go_wp2_with fail
          first | exact hK x (Below.refl _ _) | exact Below.refl _ _
        simp only [Act.put, List.setIfInBounds_toArray, List.set_cons_succ, List.set_cons_zero]
        apply EqGo.run
        focus
          kernel_rfl
        focus
          intro x K hK
          go_wp2_with fail
          refine (Hid.out HNM x.val x.below).mono ?_
          rintro e x' ⟨rfl, hb'⟩
          exact hK ⟨x', x.below.trans (hb'.mono x.below.size)⟩ hb'
        simp only [Act.put, List.setIfInBounds_toArray, List.set_cons_succ, List.set_cons_zero]
        apply EqGo.run
        focus
          kernel_rfl
        focus
          intro x K hK
          go_wp2_with fail
          first | exact hK x (Below.refl _ _) | exact Below.refl _ _
        simp only [Act.put, List.setIfInBounds_toArray, List.set_cons_succ, List.set_cons_zero]
        intro x
        have HR3 := Lib.hid (HR2.out.below x.below)
        have HQ3 := Lib.hid (HQ.out.below x.below)
        have HP3 := Lib.hid (HP.out.below x.below)
        have HB3 := Lib.hid (HB2.out.trans (x.below.mono HB2.out.size))
        clear HR2 HQ HP HB2 HW2 HNM l0 l1 HNN
        generalize x.val = wx at *
        clear x
        have z0 := HP3.out.cell 0
        have z1 := HP3.out.cell 1
        have z2 := HP3.out.cell 2
        have z3 := HP3.out.cell 3
        have f0 := HP3.out.frozen 0
        have f2 := HP3.out.frozen 2
        have f3 := HP3.out.frozen 3
        have y0 := HQ3.out.cell 0
        have y1 := HQ3.out.cell 1
        have y2 := HQ3.out.cell 2
        have y3 := HQ3.out.cell 3
        have g0 := HQ3.out.frozen 0
        have g1 := HQ3.out.frozen 1
        have g2 := HQ3.out.frozen 2
        have g3 := HQ3.out.frozen 3
        go_wp2_with fail
        have hP1 := HQ3.out.other (a := ⟨w.heap.size, 0, none⟩) (by show w.heap.size + 1 ≠ w.heap.size; omega) (.int .i64 4)
        have hP2 := hP1.other (a := ⟨w.heap.size, 3, none⟩) (by show w.heap.size + 1 ≠ w.heap.size; omega) (.string { data := #[] })
        have hP3 := hP2.other (a := ⟨w.heap.size, 2, none⟩) (by show w.heap.size + 1 ≠ w.heap.size; omega) (.int .i64 ((d : Int) - 48))
        have hQf := hP3.set4 (.int .i64 4) (.int .i64 i) (.int .i64 ((d : Int) - 48)) (.string { data := #[] })
        have hle : w.heap.size ≤ w.heap.size + 1 := by omega
        have hb0 := ((HB3.out.setCell (p := ⟨w.heap.size, 0, none⟩) (Nat.le_refl _) (.int .i64 4)).setCell (p := ⟨w.heap.size, 3, none⟩) (Nat.le_refl _) (.string { data := #[] })).setCell (p := ⟨w.heap.size, 2, none⟩) (Nat.le_refl _) (.int .i64 ((d : Int) - 48))
        have hbf := (((hb0.setCell (p := ⟨w.heap.size + 1, 0, none⟩) hle (.int .i64 4)).setCell (p := ⟨w.heap.size + 1, 1, none⟩) hle (.int .i64 i)).setCell (p := ⟨w.heap.size + 1, 2, none⟩) hle (.int .i64 ((d : Int) - 48))).setCell (p := ⟨w.heap.size + 1, 3, none⟩) hle (.string { data := #[] })
        have q0 := hQf.cell 0
        have q1 := hQf.cell 1
        have q2 := hQf.cell 2
        have q3 := hQf.cell 3
        simp only [List.getElem?_toArray, List.getElem?_cons_zero, List.getElem?_cons_succ] at q0 q1 q2 q3
        refine bodyPost_ret (v := .tuple #[.agg #[(.int .i64 4), .int .i64 i, (.int .i64 ((d : Int) - 48)), (.string { data := #[] })], (.int .i64 2), .nilIface]) (by simp [results, Tryd.results82, go_sem, q0, q1, q2, q3]) rfl (And.intro ?_ hbf)
        first | rfl | (rw [HRS.out]; rfl) | (rw [HRS.out]; simp; done) | (simp; done) | (simp; omega)
      · have HT := Lib.hid (dolTail_else (i := i) hd h42 hdg)
        rw [HT.out]
        clear hd HT
        have h42' : ¬ (d : Int) = 42 := by omega
        have hdg' : (d : Int) < 49 ∨ 57 < (d : Int) := by omega
        rcases hdg' with hdg' | hdg'
        all_goals
          go_enter Tryd.func82, Tryd.ntmps82
          go_upto_region 1 with (fail)
          rw [← HW2.out]
          refine wp_region_eq (by kernel_rfl) (by kernel_rfl) ?_
          apply EqGo.run
          focus
            kernel_rfl
          focus
            intro x K hK
            go_wp2_with fail
            first | exact hK x (Below.refl _ _) | exact Below.refl _ _
          simp only [Act.put, List.setIfInBounds_toArray, List.set_cons_succ, List.set_cons_zero]
          apply EqGo.run
          focus
            kernel_rfl
          focus
            intro x K hK
            go_wp2_with fail
            first | exact hK x (Below.refl _ _) | exact Below.refl _ _
          simp only [Act.put, List.setIfInBounds_toArray, List.set_cons_succ, List.set_cons_zero]
          apply EqGo.run
          focus
            kernel_rfl
          focus
            intro x K hK
            go_wp2_with fail
            first | exact hK x (Below.refl _ _) | exact Below.refl _ _
          simp only [Act.put, List.setIfInBounds_toArray, List.set_cons_succ, List.set_cons_zero]
          apply EqGo.run
          focus
            kernel_rfl
          focus
            intro x K hK
            go_wp2_with fail
            first | exact hK x (Below.refl _ _) | exact Below.refl _ _
          simp only [Act.put, List.setIfInBounds_toArray, List.set_cons_succ, List.set_cons_zero]
          apply EqGo.run
          focus
            kernel_rfl
          focus
            intro x K hK
            go_wp2_with fail
            first | exact hK x (Below.refl _ _) | exact Below.refl _ _
          simp only [Act.put, List.setIfInBounds_toArray, List.set_cons_succ, List.set_cons_zero]
          apply EqGo.run
          focus
            kernel_rfl
          focus
            intro x K hK
            go_wp2_with fail
            first | exact hK x (Below.refl _ _) | exact Below.refl _ _
          simp only [Act.put, List.setIfInBounds_toArray, List.set_cons_succ, List.set_cons_zero]
          apply EqGo.run
          focus
            kernel_rfl
          focus
            intro x K hK
            go_wp2_with fail
            first | exact hK x (Below.refl _ _) | exact Below.refl _ _
          simp only [Act.put, List.setIfInBounds_toArray, List.set_cons_succ, List.set_cons_zero]
          apply EqGo.run
          focus
            kernel_rfl
          focus
            intro x K hK
            go_wp2_with fail
            first | exact hK x (Below.refl _ _) | exact Below.refl _ _
          simp only [Act.put, List.setIfInBounds_toArray, List.set_cons_succ, List.set_cons_zero]
          apply EqGo.run
          focus
            kernel_rfl
          focus
            intro x K hK
            go_wp2_with fail
            first | exact hK x (Below.refl _ _) | exact Below.refl _ _
          simp only [Act.put, List.setIfInBounds_toArray, List.set_cons_succ, List.set_cons_zero]
          apply EqGo.run
          focus
            kernel_rfl
          focus
            intro x K hK
            go_wp2_with fail
            refine (Hid.out HNM x.val x.below).mono ?_
            rintro e x' ⟨rfl, hb'⟩
            exact hK ⟨x', x.below.trans (hb'.mono x.below.size)⟩ hb'
          simp only [Act.put, List.setIfInBounds_toArray, List.set_cons_succ, List.set_cons_zero]
          apply EqGo.run
          focus
            kernel_rfl
          focus
            intro x K hK
            go_wp2_with fail
            first | exact hK x (Below.refl _ _) | exact Below.refl _ _
          simp only [Act.put, List.setIfInBounds_toArray, List.set_cons_succ, List.set_cons_zero]
          intro x
          have HR3 := Lib.hid (HR2.out.below x.below)
          have HQ3 := Lib.hid (HQ.out.below x.below)
          have HP3 := Lib.hid (HP.out.below x.below)
          have HB3 := Lib.hid (HB2.out.trans (x.below.mono HB2.out.size))
          clear HR2 HQ HP HB2 HW2 HNM l0 l1 HNN
          generalize x.val = wx at *
          clear x
          have z0 := HP3.out.cell 0
          have z1 := HP3.out.cell 1
          have z2 := HP3.out.cell 2
          have z3 := HP3.out.cell 3
          have f0 := HP3.out.frozen 0
          have f2 := HP3.out.frozen 2
          have f3 := HP3.out.frozen 3
          have y0 := HQ3.out.cell 0
          have y1 := HQ3.out.cell 1
          have y2 := HQ3.out.cell 2
          have y3 := HQ3.out.cell 3
          have g0 := HQ3.out.frozen 0
          have g1 := HQ3.out.frozen 1
          have g2 := HQ3.out.frozen 2
          have g3 := HQ3.out.frozen 3
          go_wp2_with fail
          have hQf := HQ3.out.set4 (.int .i64 1) (.int .i64 i) (.int .i64 0) (.string { data := #[36] })
          have hle : w.heap.size ≤ w.heap.size + 1 := by omega
          have hbf := (((HB3.out.setCell (p := ⟨w.heap.size + 1, 0, none⟩) hle (.int .i64 1)).setCell (p := ⟨w.heap.size + 1, 1, none⟩) hle (.int .i64 i)).setCell (p := ⟨w.heap.size + 1, 2, none⟩) hle (.int .i64 0)).setCell (p := ⟨w.heap.size + 1, 3, none⟩) hle (.string { data := #[36] })
          have q0 := hQf.cell 0
          have q1 := hQf.cell 1
          have q2 := hQf.cell 2
          have q3 := hQf.cell 3
          simp only [List.getElem?_toArray, List.getElem?_cons_zero, List.getElem?_cons_succ] at q0 q1 q2 q3
          refine bodyPost_ret (v := .tuple #[.agg #[(.int .i64 1), .int .i64 i, (.int .i64 0), (.string { data := #[36] })], (.int .i64 1), .nilIface]) (by simp [results, Tryd.results82, go_sem, q0, q1, q2, q3]) rfl (And.intro ?_ hbf)
          first | rfl | (rw [HRS.out]; rfl) | (rw [HRS.out]; simp; done) | (simp; done) | (simp; omega)
end Go.Proofs.YtlhpflilpdceiaaDoor
