/- The walk over package cscan's word: between braces. Bounds on the lengths. -/
import Derived.Test.YtlhpflilpdceiaaDoorScanWA
set_option linter.unusedVariables false
set_option linter.unusedSimpArgs false
namespace Go.Proofs.YtlhpflilpdceiaaDoor
open Go.RowKit

/-- A row just laid, behind that block. -/
def rowI (g : Nat) (t : TypeId) (ini fin : Array Value) (e : TypeId) (cs : Array Value) : TTR (StR g t ini fin) := ⟨fun v => ∃ b, v = .slice (some ⟨b, 0, none⟩) 1 1, ⟨_, 0, rfl⟩, fun v x => ∀ b, v = .slice (some ⟨b, 0, none⟩) 1 1 → Blk x b e cs ∧ g < b, fun v _ _ h hr b hb => ⟨hr.but.blk (h b hb).1 (by have := (h b hb).2; omega), (h b hb).2⟩⟩
set_option maxRecDepth 100000 in
set_option maxHeartbeats 4000000 in
theorem word_brace_any (B S : Nat) (s : ByteArray) (i : Nat) (Ls : List Addr) (w : World) (h : Rdr w B S s i) (hE : SenB w Ls B) (hs : s.size ≤ 8192) (hi : i < s.size) (hcc : s.data.toList[i]'hi = 123) :
    Calls Tryd.prog 30 #[.pointer (some ⟨B, 0, none⟩)] w (WdRet (wordA s.data.toList i) Ls B S s w) := by
  obtain ⟨w2, hw2⟩ : ∃ w2, w2 = (w.alloc (.cells #[.int .i64 0, .bool false, .slice none 0 0] 36)).alloc (.cells #[.int .i64 i, .bool false, .slice none 0 0] 36) := ⟨_, rfl⟩
  obtain ⟨aT, haT⟩ : ∃ a, Ls[6]? = some a := ⟨Ls[6]'(by rw [hE.sen.len]; decide), List.getElem?_eq_getElem _⟩
  obtain ⟨aB, haB⟩ : ∃ a, Ls[4]? = some a := ⟨Ls[4]'(by rw [hE.sen.len]; decide), List.getElem?_eq_getElem _⟩
  have hb2 : Below w.heap.size w w2 := by rw [hw2]; exact below3 _ _ _
  have HQ2 := Lib.hid (show Blk w2 w.heap.size 36 #[.int .i64 0, .bool false, .slice none 0 0] by rw [hw2]; exact (Blk.new w _ _).below ((Below.refl _ _).alloc (Nat.le_refl _) _))
  have HP2 := Lib.hid (show Blk w2 (w.heap.size + 1) 36 #[.int .i64 i, .bool false, .slice none 0 0] by
    rw [hw2]
    have := Blk.new (w.alloc (.cells #[.int .i64 0, .bool false, .slice none 0 0] 36)) 36 #[.int .i64 i, .bool false, .slice none 0 0]
    rwa [alloc_size] at this)
  have HR2 := Lib.hid (h.below hb2)
  have HE2 := Lib.hid (hE.below hb2)
  have HB2 := Lib.hid (But.of hb2 (B := B))
  have HW2 := Lib.hid hw2
  have HLT := Lib.hid (show B < w.heap.size from h.1.lt)
  have r1 := (h.below ((Below.refl w.heap.size w).alloc (Nat.le_refl _) (.cells #[.int .i64 0, .bool false, .slice none 0 0] 36))).c1
  clear hw2 hb2 h hE
  obtain ⟨L, hL⟩ : ∃ L, L = s.data.toList := ⟨_, rfl⟩
  have hn : L.length = s.size := by rw [hL]; rfl
  have hi' : i < L.length := by omega
  have HPK := Lib.hid (fun (W : World) (hr : Rdr W B S s i) => peek_any B S s i W hr)
  have HQD := Lib.hid (fun (W : World) (hr : Rdr W B S s i) => brace_any B S s i (i + 1) W hr (by omega) (by omega))
  have HS2 := Lib.hid (fun k W => bslice_any s (i + 1) k W)
  have HEN0 := Lib.hid (fun (j : Nat) (W : World) (hr : Rdr W B S s j) => ends_any B S s j W hr)
  have hcc' : L[i] = 123 := by subst hL; exact hcc
  rw [← hL] at HPK HQD HS2 HEN0 ⊢
  have hPK2 : ∀ W, Rdr W B S s i → Calls Tryd.prog 29 #[.pointer (some ⟨B, 0, none⟩)] W (Ret W (.tuple #[.int .u8 123, .bool true])) := fun W hr => by
    have := HPK.out W hr
    rwa [byteV_in hi', hcc'] at this
  replace HPK := Lib.hid hPK2
  have HL := Lib.hid hL
  have HWA := Lib.hid (wordA_brace hi' hcc')
  obtain ⟨R, hR⟩ : ∃ R, R = wordA L i := ⟨_, rfl⟩
  rw [← hR]
  have HR := Lib.hid hR
  have HQB := Lib.hid (show w.heap.size ≠ B by have := HLT.out; omega)
  have HPB := Lib.hid (show w.heap.size + 1 ≠ B by have := HLT.out; omega)
  have hne : w.heap.size ≠ w.heap.size + 1 := by omega
  clear hcc hcc' hR hL hPK2
  go_enter Tryd.func30, Tryd.ntmps30
  go_upto_region 2 with (fail)
  rw [← HW2.out]
  clear HW2 r1
  go_wp2_with fail
  refine (HPK.out _ HR2.out).mono ?_
  rintro e w3 ⟨rfl, hb3⟩
  replace HQ2 := Lib.hid (HQ2.out.below hb3)
  replace HP2 := Lib.hid (HP2.out.below hb3)
  replace HR2 := Lib.hid (HR2.out.below hb3)
  replace HE2 := Lib.hid (HE2.out.below hb3)
  replace HB2 := Lib.hid (HB2.out.trans (But.of hb3))
  clear hb3
  have r3 := HR2.out.c1
  go_wp2_with fail
  refine (HQD.out _ HR2.out).mono ?_
  cases hp : braceA L (i + 1) 0 with
  | none =>
    rintro e w4 ⟨rfl, hb4⟩
    have HRe := Lib.hid (show R = .err 5 i by rw [HR.out, HWA.out, hp])
    have hQ6 := HQ2.out.below hb4
    have HR6 := Lib.hid (HR2.out.below hb4)
    have HB6 := Lib.hid (HB2.out.trans (But.of hb4))
    have n6 := (HE2.out.below hb4).sen.var 4 _ aB rfl haB
    have r6 := HR6.out.c1
    have hlt6 := hQ6.lt
    have hne6 : B ≠ w.heap.size := Blk.apart HR6.out.1 hQ6 (by decide)
    have hne7 : 1 ≠ w.heap.size := by
      intro e
      have h0 := hQ6.cell 0
      rw [← e, n6] at h0
      cases h0
    have HF := Lib.hid (fun W => cfault_any i aB W)
    unfold optV
    clear hb4 hp HQ2 HP2 HR2 HB2 HE2 HS2 HEN0
    go_wp2_with fail
    apply wp_region_st w.heap.size 36 #[.int .i64 0, .bool false, .slice none 0 0] #[.int .i64 0, .bool false, .slice none 0 0] [eqT _, eqT _, eqT _, eqT _, eqT _, eqT _, errI _ _ _ _ i aB, finT _ _ _ _, errI _ _ _ _ i aB] (by kernel_rfl) (by kernel_rfl) rfl
    focus
      refine ⟨?_, ?_⟩
      focus
        unfold opGoal
        rw [if_pos (by kernel_rfl)]
        intro x hb hd K hk
        clear hd
        go_wp2_with fail
        exact hk _ _ rfl trivial (StR.refl _ _ _ _ _)
      rintro _ rfl
      simp only [Act.put, List.setIfInBounds_toArray, List.set_cons_succ, List.set_cons_zero]
      refine ⟨?_, ?_⟩
      focus
        unfold opGoal
        rw [if_pos (by kernel_rfl)]
        intro x hb hd K hk
        clear hd
        go_wp2_with fail
        exact hk _ _ rfl trivial (StR.refl _ _ _ _ _)
      rintro _ rfl
      simp only [Act.put, List.setIfInBounds_toArray, List.set_cons_succ, List.set_cons_zero]
      refine ⟨?_, ?_⟩
      focus
        unfold opGoal
        rw [if_pos (by kernel_rfl)]
        intro x hb hd K hk
        clear hd
        go_wp2_with fail
        exact hk _ _ rfl trivial (StR.refl _ _ _ _ _)
      rintro _ rfl
      simp only [Act.put, List.setIfInBounds_toArray, List.set_cons_succ, List.set_cons_zero]
      refine ⟨?_, ?_⟩
      focus
        unfold opGoal
        rw [if_pos (by kernel_rfl)]
        intro x hb hd K hk
        clear hd
        go_wp2_with fail
        exact hk _ _ rfl trivial (StR.refl _ _ _ _ _)
      rintro _ rfl
      simp only [Act.put, List.setIfInBounds_toArray, List.set_cons_succ, List.set_cons_zero]
      refine ⟨?_, ?_⟩
      focus
        unfold opGoal
        rw [if_pos (by kernel_rfl)]
        intro x hb hd K hk
        clear hd
        have l0 := StR.cell hb r6 hne6
        go_wp2_with fail
        exact hk _ _ rfl trivial (StR.refl _ _ _ _ _)
      rintro _ rfl
      simp only [Act.put, List.setIfInBounds_toArray, List.set_cons_succ, List.set_cons_zero]
      refine ⟨?_, ?_⟩
      focus
        unfold opGoal
        rw [if_pos (by kernel_rfl)]
        intro x hb hd K hk
        clear hd
        have l0 := StR.cell hb n6 hne7
        go_wp2_with fail
        exact hk _ _ rfl trivial (StR.refl _ _ _ _ _)
      rintro _ rfl
      simp only [Act.put, List.setIfInBounds_toArray, List.set_cons_succ, List.set_cons_zero]
      refine ⟨?_, ?_⟩
      focus
        unfold opGoal
        rw [if_pos (by kernel_rfl)]
        intro x hb hd K hk
        clear hd
        go_wp2_with fail
        refine (Hid.out HF x).mono ?_
        rintro e x' ⟨v, rfl, hv, hb'⟩
        obtain ⟨gv, rfl, hv2⟩ := hv
        exact hk _ _ ⟨_, rfl⟩ (AtV.mono ⟨gv, rfl, hv2⟩ (by have := hb.but.size; have := hlt6; omega)) (StR.of hb')
      rintro _ ⟨gc, rfl⟩
      simp only [Act.put, List.setIfInBounds_toArray, List.set_cons_succ, List.set_cons_zero]
      refine ⟨?_, ?_⟩
      focus
        unfold opGoal
        rw [if_pos (by kernel_rfl)]
        intro x hb hd K hk
        clear hd
        obtain ⟨e0, e1, e2, hI⟩ := hb.has3 hQ6
        have m0 := hI.cell 0
        have m1 := hI.cell 1
        have m2 := hI.cell 2
        have f0 := hI.frozen 0
        have f1 := hI.frozen 1
        have f2 := hI.frozen 2
        have HI := Lib.hid hI
        clear hI
        go_wp2_with fail
        exact hk undef _ trivial (HI.out.set3 _ _ _) (StR.put3 HI.out _ _ _)
      rintro sv -
      simp only [Act.put, List.setIfInBounds_toArray, List.set_cons_succ, List.set_cons_zero]
      refine ⟨?_, ?_⟩
      focus
        unfold opGoal
        rw [if_pos (by kernel_rfl)]
        intro x hb hd K hk
        have hE := hd _ (List.mem_cons_self ..) rfl _ _ rfl rfl
        clear hd
        go_wp2_with fail
        exact hk _ _ ⟨_, rfl⟩ hE (StR.refl _ _ _ _ _)
      rintro _ ⟨ge, rfl⟩
      simp only [Act.put, List.setIfInBounds_toArray, List.set_cons_succ, List.set_cons_zero]
      intro x hbx hf
      have hEx := hf 8 (errI _ _ _ _ i aB) (.iface 127 (.pointer (some ⟨ge, 0, none⟩))) (by kernel_rfl) (by kernel_rfl)
      unfold errI at hEx
      simp only at hEx
      have HEX := Lib.hid hEx
      have hQ4 := (hbx.st hQ6).elim id id
      have HR7 := Lib.hid (show Rdr x B S s i from ⟨hbx.but.blk HR6.out.1 hne6, hbx.but.blk HR6.out.2 (Blk.apart HR6.out.2 hQ6 (by decide))⟩)
      have HB7 := Lib.hid (show But B w x from ⟨hbx.but.os.trans HB6.out.os, hbx.but.tape.trans HB6.out.tape, hbx.but.output.trans HB6.out.output, Nat.le_trans HB6.out.size hbx.but.size, fun k hk hn => (hbx.but.block k (Nat.lt_of_lt_of_le hk HB6.out.size) (by omega)).trans (HB6.out.block k hk hn)⟩)
      have HQ7 := Lib.hid hQ4
      clear hf hEx hbx hQ6 hQ4 r6 n6 HR6 HB6
      go_wp2_with fail
      have t0 := HQ7.out.cell 0
      have t1 := HQ7.out.cell 1
      have t2 := HQ7.out.cell 2
      simp only [List.getElem?_toArray, List.getElem?_cons_zero, List.getElem?_cons_succ] at t0 t1 t2
      refine bodyPost_ret (v := .tuple #[.agg #[(.int .i64 0), (.bool false), (.slice none 0 0)], (.iface 127 (.pointer (some ⟨ge, 0, none⟩)))]) (by simp [results, Tryd.results30, go_sem, t0, t1, t2]) rfl ?_
      rw [HRe.out]
      exact ⟨0, _, _, rfl, AtE.of HEX.out haB, HR7.out, HB7.out⟩
  | some k =>
    rintro e w4 ⟨rfl, hb4⟩
    have hk := braceA_lt hp
    have HR0 := Lib.hid (show R = if endsA L (k + 1) = true then .ok ⟨i, true, [⟨1, i + 1, 0, cutL L (i + 1) k⟩]⟩ (k + 1) (L.drop (k + 1)) else .err 7 (k + 1) by rw [HR.out, HWA.out, hp])
    have HRT := Lib.hid (show stopA L endB (k + 1) = true → R = .ok ⟨i, true, [⟨1, i + 1, 0, cutL L (i + 1) k⟩]⟩ (k + 1) (L.drop (k + 1)) from fun h => by rw [HR0.out, if_pos (by rw [← stopA_ends]; exact h)])
    have HRF := Lib.hid (show stopA L endB (k + 1) = false → R = .err 7 (k + 1) from fun h => by rw [HR0.out, if_neg (by rw [← stopA_ends, h]; decide)])
    have HEN := Lib.hid (HEN0.out (k + 1))
    replace HS2 := Lib.hid (HS2.out k)
    obtain ⟨ss, hss⟩ : ∃ ss : ByteArray, ss = ⟨(cutL L (i + 1) k).toArray⟩ := ⟨_, rfl⟩
    rw [← hss] at HS2
    have HSS := Lib.hid hss
    have hk2 : k + 1 ≤ 8192 := by omega
    have hQ4 := HQ2.out.below hb4
    have hP4 := HP2.out.below hb4
    have HB4 := Lib.hid (HB2.out.trans (But.of hb4))
    have hR4 := HR2.out.below hb4
    have HE4 := Lib.hid (HE2.out.below hb4)
    have r0 := hR4.c0
    have r1 := hR4.c1
    have r2 := hR4.c2
    have hneB : B ≠ w.heap.size + 1 := Blk.apart hR4.1 hP4 (by decide)
    have hneS : S ≠ w.heap.size + 1 := Blk.apart hR4.2 hP4 (by decide)
    have hlt4 := hP4.lt
    have hbig : w.heap.size ≤ w4.heap.size := HB4.out.size
    unfold optV
    clear hp hss HR0 HEN0 HQ2 HP2 HB2 HR2 HE2 r3
    go_wp2_with fail
    apply wp_region_stT (w.heap.size + 1) 36 #[.int .i64 i, .bool false, .slice none 0 0] #[.int .i64 i, .bool true, .slice none 0 0] 23 [eqT _, eqT _, eqT _, eqT _, eqT _, eqT _, eqT _, eqT _, eqT _, eqT _, eqT _, eqT _, eqT _, eqT _, eqT _, eqT _, eqT _, eqT _, eqT _, eqT _, rowI _ _ _ _ 48 #[.int .i64 1, .int .i64 ((i : Int) + 1), .int .i64 0, .string ss], eqT _, finT _ _ _ _] (by kernel_rfl) (by kernel_rfl) (by kernel_rfl) rfl
    focus
      refine ⟨?_, ?_⟩
      focus
        unfold opGoal
        rw [if_pos (by kernel_rfl)]
        intro x hb hd K hk
        clear hd
        go_wp2_with fail
        exact hk _ _ rfl trivial (StR.refl _ _ _ _ _)
      rintro _ rfl
      simp only [Act.put, List.setIfInBounds_toArray, List.set_cons_succ, List.set_cons_zero]
      refine ⟨?_, ?_⟩
      focus
        unfold opGoal
        rw [if_pos (by kernel_rfl)]
        intro x hb hd K hk
        clear hd
        go_wp2_with fail
        exact hk _ _ rfl trivial (StR.refl _ _ _ _ _)
      rintro _ rfl
      simp only [Act.put, List.setIfInBounds_toArray, List.set_cons_succ, List.set_cons_zero]
      refine ⟨?_, ?_⟩
      focus
        unfold opGoal
        rw [if_pos (by kernel_rfl)]
        intro x hb hd K hk
        clear hd
        go_wp2_with fail
        exact hk _ _ rfl trivial (StR.refl _ _ _ _ _)
      rintro _ rfl
      simp only [Act.put, List.setIfInBounds_toArray, List.set_cons_succ, List.set_cons_zero]
      refine ⟨?_, ?_⟩
      focus
        unfold opGoal
        rw [if_pos (by kernel_rfl)]
        intro x hb hd K hk
        clear hd
        have l0 := StR.cell hb r1 hneB
        go_wp2_with fail
        exact hk _ _ rfl trivial (StR.refl _ _ _ _ _)
      rintro _ rfl
      simp only [Act.put, List.setIfInBounds_toArray, List.set_cons_succ, List.set_cons_zero]
      refine ⟨?_, ?_⟩
      focus
        unfold opGoal
        rw [if_pos (by kernel_rfl)]
        intro x hb hd K hk
        clear hd
        go_wp2_with fail
        exact hk _ _ rfl trivial (StR.refl _ _ _ _ _)
      rintro _ rfl
      simp only [Act.put, List.setIfInBounds_toArray, List.set_cons_succ, List.set_cons_zero]
      refine ⟨?_, ?_⟩
      focus
        unfold opGoal
        rw [if_pos (by kernel_rfl)]
        intro x hb hd K hk
        clear hd
        go_wp2_with fail
        exact hk _ _ rfl trivial (StR.refl _ _ _ _ _)
      rintro _ rfl
      simp only [Act.put, List.setIfInBounds_toArray, List.set_cons_succ, List.set_cons_zero]
      refine ⟨?_, ?_⟩
      focus
        unfold opGoal
        rw [if_pos (by kernel_rfl)]
        intro x hb hd K hk
        clear hd
        go_wp2_with fail
        exact hk _ _ rfl trivial (StR.refl _ _ _ _ _)
      rintro _ rfl
      simp only [Act.put, List.setIfInBounds_toArray, List.set_cons_succ, List.set_cons_zero]
      refine ⟨?_, ?_⟩
      focus
        unfold opGoal
        rw [if_pos (by kernel_rfl)]
        intro x hb hd K hk
        clear hd
        go_wp2_with fail
        exact hk _ _ rfl trivial (StR.refl _ _ _ _ _)
      rintro _ rfl
      simp only [Act.put, List.setIfInBounds_toArray, List.set_cons_succ, List.set_cons_zero]
      refine ⟨?_, ?_⟩
      focus
        unfold opGoal
        rw [if_pos (by kernel_rfl)]
        intro x hb hd K hk
        clear hd
        have l0 := StR.cell hb r0 hneB
        go_wp2_with fail
        exact hk _ _ rfl trivial (StR.refl _ _ _ _ _)
      rintro _ rfl
      simp only [Act.put, List.setIfInBounds_toArray, List.set_cons_succ, List.set_cons_zero]
      refine ⟨?_, ?_⟩
      focus
        unfold opGoal
        rw [if_pos (by kernel_rfl)]
        intro x hb hd K hk
        clear hd
        go_wp2_with fail
        exact hk _ _ rfl trivial (StR.refl _ _ _ _ _)
      rintro _ rfl
      simp only [Act.put, List.setIfInBounds_toArray, List.set_cons_succ, List.set_cons_zero]
      refine ⟨?_, ?_⟩
      focus
        unfold opGoal
        rw [if_pos (by kernel_rfl)]
        intro x hb hd K hk
        clear hd
        go_wp2_with fail
        exact hk _ _ rfl trivial (StR.refl _ _ _ _ _)
      rintro _ rfl
      simp only [Act.put, List.setIfInBounds_toArray, List.set_cons_succ, List.set_cons_zero]
      refine ⟨?_, ?_⟩
      focus
        unfold opGoal
        rw [if_pos (by kernel_rfl)]
        intro x hb hd K hk
        clear hd
        have l0 := StR.cell hb r2 hneS
        go_wp2_with fail
        exact hk _ _ rfl trivial (StR.refl _ _ _ _ _)
      rintro _ rfl
      simp only [Act.put, List.setIfInBounds_toArray, List.set_cons_succ, List.set_cons_zero]
      refine ⟨?_, ?_⟩
      focus
        unfold opGoal
        rw [if_pos (by kernel_rfl)]
        intro x hb hd K hk
        clear hd
        go_wp2_with fail
        exact hk _ _ rfl trivial (StR.refl _ _ _ _ _)
      rintro _ rfl
      simp only [Act.put, List.setIfInBounds_toArray, List.set_cons_succ, List.set_cons_zero]
      refine ⟨?_, ?_⟩
      focus
        unfold opGoal
        rw [if_pos (by kernel_rfl)]
        intro x hb hd K hk
        clear hd
        go_wp2_with fail
        exact hk _ _ rfl trivial (StR.refl _ _ _ _ _)
      rintro _ rfl
      simp only [Act.put, List.setIfInBounds_toArray, List.set_cons_succ, List.set_cons_zero]
      refine ⟨?_, ?_⟩
      focus
        unfold opGoal
        rw [if_pos (by kernel_rfl)]
        intro x hb hd K hk
        clear hd
        go_wp2_with fail
        exact hk _ _ rfl trivial (StR.refl _ _ _ _ _)
      rintro _ rfl
      simp only [Act.put, List.setIfInBounds_toArray, List.set_cons_succ, List.set_cons_zero]
      refine ⟨?_, ?_⟩
      focus
        unfold opGoal
        rw [if_pos (by kernel_rfl)]
        intro x hb hd K hk
        clear hd
        have l0 := StR.cell hb r1 hneB
        go_wp2_with fail
        exact hk _ _ rfl trivial (StR.refl _ _ _ _ _)
      rintro _ rfl
      simp only [Act.put, List.setIfInBounds_toArray, List.set_cons_succ, List.set_cons_zero]
      refine ⟨?_, ?_⟩
      focus
        unfold opGoal
        rw [if_pos (by kernel_rfl)]
        intro x hb hd K hk
        clear hd
        go_wp2_with fail
        exact hk _ _ rfl trivial (StR.refl _ _ _ _ _)
      rintro _ rfl
      simp only [Act.put, List.setIfInBounds_toArray, List.set_cons_succ, List.set_cons_zero]
      refine ⟨?_, ?_⟩
      focus
        unfold opGoal
        rw [if_pos (by kernel_rfl)]
        intro x hb hd K hk
        clear hd
        go_wp2_with fail
        exact hk _ _ rfl trivial (StR.refl _ _ _ _ _)
      rintro _ rfl
      simp only [Act.put, List.setIfInBounds_toArray, List.set_cons_succ, List.set_cons_zero]
      refine ⟨?_, ?_⟩
      focus
        unfold opGoal
        rw [if_pos (by kernel_rfl)]
        intro x hb hd K hk
        clear hd
        go_wp2_with fail
        refine (Hid.out HS2 x).mono ?_
        rintro e x' ⟨rfl, hb'⟩
        exact hk _ _ rfl trivial (StR.of hb')
      rintro _ rfl
      simp only [Act.put, List.setIfInBounds_toArray, List.set_cons_succ, List.set_cons_zero]
      refine ⟨?_, ?_⟩
      focus
        unfold opGoal
        rw [if_pos (by kernel_rfl)]
        intro x hb hd K hk
        clear hd
        go_wp2_with fail
        exact hk _ _ rfl trivial (StR.refl _ _ _ _ _)
      rintro _ rfl
      simp only [Act.put, List.setIfInBounds_toArray, List.set_cons_succ, List.set_cons_zero]
      refine ⟨?_, ?_⟩
      focus
        unfold opGoal
        rw [if_pos (by kernel_rfl)]
        intro x hb hd K hk
        clear hd
        have hxs := hb.but.size
        go_wp2_with fail
        refine hk _ _ ⟨_, rfl⟩ ?_ (StR.of ((Below.refl _ _).alloc (Nat.le_refl _) _))
        intro b hb2
        injection hb2 with hb2
        injection hb2 with hb2
        injection hb2 with hb2
        subst hb2
        exact ⟨Blk.new x _ _, by omega⟩
      rintro _ ⟨gr, rfl⟩
      simp only [Act.put, List.setIfInBounds_toArray, List.set_cons_succ, List.set_cons_zero]
      refine ⟨?_, ?_⟩
      focus
        unfold opGoal
        rw [if_pos (by kernel_rfl)]
        intro x hb hd K hk
        clear hd
        go_wp2_with fail
        exact hk _ _ rfl trivial (StR.refl _ _ _ _ _)
      rintro _ rfl
      simp only [Act.put, List.setIfInBounds_toArray, List.set_cons_succ, List.set_cons_zero]
      refine ⟨?_, ?_⟩
      focus
        unfold opGoal
        rw [if_pos (by kernel_rfl)]
        intro x hb hd K hk
        clear hd
        have hst := hb.st hP4
        have hH := Lib.hid (StR.to1 1 (.bool true) rfl rfl hst)
        have hz : ∃ u, x.cell? ⟨w.heap.size + 1, 1, none⟩ = some u := hst.elim (fun h => ⟨_, h.cell 1⟩) fun h => ⟨_, h.cell 1⟩
        have hfz : x.frozen? ⟨w.heap.size + 1, 1, none⟩ = false := hst.elim (fun h => h.frozen 1) fun h => h.frozen 1
        obtain ⟨u, hz⟩ := hz
        have hR := Lib.hid (StR.put1 (g := w.heap.size + 1) (t := 36) (ini := #[.int .i64 i, .bool false, .slice none 0 0]) (fin := #[.int .i64 i, .bool true, .slice none 0 0]) x 1 (.bool true) rfl rfl)
        clear hst
        go_wp2_with fail
        exact hk undef _ trivial hH.out hR.out
      rintro sv -
      simp only [Act.put, List.setIfInBounds_toArray, List.set_cons_succ, List.set_cons_zero]
      intro x hbx hf
      simp only [List.drop_succ_cons, List.drop_zero]
      have hPx := hf 22 (finT _ _ _ _) sv (by kernel_rfl) (by kernel_rfl)
      obtain ⟨hGx, hGb⟩ := hf 20 (rowI _ _ _ _ 48 #[.int .i64 1, .int .i64 ((i : Int) + 1), .int .i64 0, .string ss]) (.slice (some ⟨gr, 0, none⟩) 1 1) (by kernel_rfl) (by kernel_rfl) gr rfl
      clear hf
      unfold finT at hPx
      simp only at hPx
      have HQX := Lib.hid (hbx.but.blk hQ4 hne)
      have HRX := Lib.hid (show Rdr x B S s i from ⟨hbx.but.blk hR4.1 hneB, hbx.but.blk hR4.2 hneS⟩)
      have HEX := Lib.hid (show SenB x Ls B from ⟨⟨HE4.out.sen.len, fun i g a h1 h2 => hbx.but.cell (HE4.out.sen.var i g a h1 h2) (by have := HE4.out.gs g (List.mem_of_getElem? h1); have := HLT.out; show g ≠ w.heap.size + 1; omega), fun a ha => (HE4.out.sen.blk a ha).imp fun _ h => h.imp fun _ h => hbx.but.blk h (by have := HE4.out.ad a ha; have := HLT.out; omega), HE4.out.sen.inj⟩, HE4.out.gs, HE4.out.ad⟩)
      have HBX := Lib.hid (show But B w x from ⟨hbx.but.os.trans HB4.out.os, hbx.but.tape.trans HB4.out.tape, hbx.but.output.trans HB4.out.output, Nat.le_trans HB4.out.size hbx.but.size, fun k hk hn => (hbx.but.block k (Nat.lt_of_lt_of_le hk HB4.out.size) (by omega)).trans (HB4.out.block k hk hn)⟩)
      have HPX := Lib.hid hPx
      have HGX := Lib.hid hGx
      have hgP : w.heap.size + 1 ≠ gr := by omega
      have hgB : B ≠ gr := by have := HLT.out; omega
      have z2 := hPx.cell 2
      have f2 := hPx.frozen 2
      simp only [List.getElem?_toArray, List.getElem?_cons_zero, List.getElem?_cons_succ] at z2
      have rB := HRX.out.c1
      have fB := HRX.out.1.frozen 1
      have rB2 : (x.setCell ⟨w.heap.size + 1, 2, none⟩ (.slice (some ⟨gr, 0, none⟩) 1 1)).cell? ⟨B, 1, none⟩ = some (.int .i64 i) := (But.set (B := w.heap.size + 1) x 2 _).cell rB hneB
      have fB2 : (x.setCell ⟨w.heap.size + 1, 2, none⟩ (.slice (some ⟨gr, 0, none⟩) 1 1)).frozen? ⟨B, 1, none⟩ = false := ((HRX.out.but HPX.out (But.set (B := w.heap.size + 1) x 2 _)).1).frozen 1
      clear hbx hQ4 hP4 hR4 r0 r1 r2 hPx hGx HS2 HQD HPK HB4 HE4 hb4
      go_wp2_with fail
      have bA := But.set (B := w.heap.size + 1) x 2 (.slice (some ⟨gr, 0, none⟩) 1 1)
      have hPs := HPX.out.set 2 (.slice (some ⟨gr, 0, none⟩) 1 1)
      simp only [List.setIfInBounds_toArray, List.set_cons_succ, List.set_cons_zero] at hPs
      have bB := But.set (B := B) (x.setCell ⟨w.heap.size + 1, 2, none⟩ (.slice (some ⟨gr, 0, none⟩) 1 1)) 1 (.int .i64 ((k + 1 : Nat) : Int))
      have hP5 := bB.blk hPs HPB.out
      have hQ5 := bB.blk (bA.blk HQX.out hne) HQB.out
      have hR5 := (HRX.out.but HPX.out bA).set (k + 1)
      have hG5 := bB.blk (bA.blk HGX.out (fun e => hgP e.symm)) (fun e => hgB e.symm)
      have hE5 := (show SenB (x.setCell ⟨w.heap.size + 1, 2, none⟩ (.slice (some ⟨gr, 0, none⟩) 1 1)) Ls B from ⟨⟨HEX.out.sen.len, fun i g a h1 h2 => bA.cell (HEX.out.sen.var i g a h1 h2) (by have := HEX.out.gs g (List.mem_of_getElem? h1); have := HLT.out; show g ≠ w.heap.size + 1; omega), fun a ha => (HEX.out.sen.blk a ha).imp fun _ h => h.imp fun _ h => bA.blk h (by have := HEX.out.ad a ha; have := HLT.out; omega), HEX.out.sen.inj⟩, HEX.out.gs, HEX.out.ad⟩).but bB
      have hB5 := (HBX.out.of2 ((Below.refl w.heap.size x).setCell (p := ⟨w.heap.size + 1, 2, none⟩) (by show w.heap.size ≤ w.heap.size + 1; omega) (.slice (some ⟨gr, 0, none⟩) 1 1))).trans bB
      have hO5 := own_blk (sz := 4) (n := 1) (base := w.heap.size) hG5 rfl (by omega) (by decide)
      rw [Int.natCast_add, show ((1 : Nat) : Int) = 1 from rfl] at hP5 hQ5 hR5 hE5 hB5 hO5
      clear z2 f2 rB fB rB2 fB2 bA bB hPs hG5 HPX HQX HRX HEX HBX HGX
      generalize (x.setCell ⟨w.heap.size + 1, 2, none⟩ (.slice (some ⟨gr, 0, none⟩) 1 1)).setCell ⟨B, 1, none⟩ (.int .i64 ((k : Int) + 1)) = w5 at *
      have HO5 := Lib.hid (show OwnP 48 w5 w.heap.size (.slice (some ⟨gr, 0, none⟩) 1 1) [⟨1, i + 1, 0, cutL L (i + 1) k⟩] by
        unfold OwnP
        rw [HSS.out] at hO5
        exact hO5)
      have HP5 := Lib.hid hP5
      have HQ5 := Lib.hid hQ5
      have HR5 := Lib.hid hR5
      have HE5 := Lib.hid hE5
      have HB5 := Lib.hid hB5
      clear hP5 hQ5 hR5 hE5 hB5 hO5
      refine (HEN.out _ HR5.out).mono ?_
      cases hst : stopA L endB (k+1) with
      | true =>
        rintro e w6 ⟨rfl, hb6⟩
        have HRe := Lib.hid (HRT.out hst)
        have hQ4 := HQ5.out.below hb6
        have hP4 := HP5.out.below hb6
        have HR6 := Lib.hid (HR5.out.below hb6)
        have HO6 := Lib.hid (HO5.out.below hb6)
        have HB6 := Lib.hid (HB5.out.trans (But.of hb6))
        clear hb6 hst
        have p0 := hP4.cell 0
        have p1 := hP4.cell 1
        have p2 := hP4.cell 2
        have q0 := hQ4.cell 0
        have q1 := hQ4.cell 1
        have q2 := hQ4.cell 2
        have g1 := hP4.frozen 1
        have g2 := hP4.frozen 2
        have f0 := hQ4.frozen 0
        have f1 := hQ4.frozen 1
        have f2 := hQ4.frozen 2
        simp only [List.getElem?_toArray, List.getElem?_cons_zero, List.getElem?_cons_succ] at p0 p1 p2 q0 q1 q2
        have HQ6 := Lib.hid hQ4
        have HP6 := Lib.hid hP4
        clear hQ4 hP4
        go_wp2_with fail
        have hQf := HQ6.out.set3 (.int .i64 i) (.bool true) (.slice (some ⟨gr, 0, none⟩) 1 1)
        have hB7 := But.set3 w.heap.size w6 (.int .i64 i) (.bool true) (.slice (some ⟨gr, 0, none⟩) 1 1)
        have hRf := HR6.out.but HQ6.out hB7
        have hOf := HO6.out.but hB7 HQ6.out (by decide)
        have hBf := HB6.out.of2 (below_set3 (Below.refl w.heap.size w6) (Nat.le_refl _) (.int .i64 i) (.bool true) (.slice (some ⟨gr, 0, none⟩) 1 1))
        have t0 := hQf.cell 0
        have t1 := hQf.cell 1
        have t2 := hQf.cell 2
        simp only [List.getElem?_toArray, List.getElem?_cons_zero, List.getElem?_cons_succ] at t0 t1 t2
        refine bodyPost_ret (v := .tuple #[.agg #[(.int .i64 i), (.bool true), (.slice (some ⟨gr, 0, none⟩) 1 1)], .nilIface]) (by simp [results, Tryd.results30, go_sem, t0, t1, t2]) rfl ?_
        rw [HRe.out]
        exact ⟨_, rfl, hOf, hRf, hBf⟩
      | false =>
        rintro e w6 ⟨rfl, hb6⟩
        have HRe := Lib.hid (HRF.out hst)
        have hQ6 := HQ5.out.below hb6
        have HR6 := Lib.hid (HR5.out.below hb6)
        have HB6 := Lib.hid (HB5.out.trans (But.of hb6))
        have n6 := (HE5.out.below hb6).sen.var 6 _ aT rfl haT
        have r6 := HR6.out.c1
        have hlt6 := hQ6.lt
        have hne6 : B ≠ w.heap.size := Blk.apart HR6.out.1 hQ6 (by decide)
        have hne7 : 2 ≠ w.heap.size := by
          intro e
          have h0 := hQ6.cell 0
          rw [← e, n6] at h0
          cases h0
        have HF := Lib.hid (fun W => cfault_any (k+1) aT W)
        clear hb6 hst HO5 HP5 HQ5 HR5 HB5 HE5
        go_wp2_with fail
        apply wp_region_st w.heap.size 36 #[.int .i64 0, .bool false, .slice none 0 0] #[.int .i64 0, .bool false, .slice none 0 0] [eqT _, eqT _, eqT _, eqT _, eqT _, errI _ _ _ _ (k+1) aT, errI _ _ _ _ (k+1) aT] (by kernel_rfl) (by kernel_rfl) rfl
        focus
          refine ⟨?_, ?_⟩
          focus
            unfold opGoal
            rw [if_pos (by kernel_rfl)]
            intro x hb hd K hk
            clear hd
            go_wp2_with fail
            exact hk _ _ rfl trivial (StR.refl _ _ _ _ _)
          rintro _ rfl
          simp only [Act.put, List.setIfInBounds_toArray, List.set_cons_succ, List.set_cons_zero]
          refine ⟨?_, ?_⟩
          focus
            unfold opGoal
            rw [if_pos (by kernel_rfl)]
            intro x hb hd K hk
            clear hd
            go_wp2_with fail
            exact hk _ _ rfl trivial (StR.refl _ _ _ _ _)
          rintro _ rfl
          simp only [Act.put, List.setIfInBounds_toArray, List.set_cons_succ, List.set_cons_zero]
          refine ⟨?_, ?_⟩
          focus
            unfold opGoal
            rw [if_pos (by kernel_rfl)]
            intro x hb hd K hk
            clear hd
            go_wp2_with fail
            exact hk _ _ rfl trivial (StR.refl _ _ _ _ _)
          rintro _ rfl
          simp only [Act.put, List.setIfInBounds_toArray, List.set_cons_succ, List.set_cons_zero]
          refine ⟨?_, ?_⟩
          focus
            unfold opGoal
            rw [if_pos (by kernel_rfl)]
            intro x hb hd K hk
            clear hd
            have l0 := StR.cell hb r6 hne6
            go_wp2_with fail
            exact hk _ _ rfl trivial (StR.refl _ _ _ _ _)
          rintro _ rfl
          simp only [Act.put, List.setIfInBounds_toArray, List.set_cons_succ, List.set_cons_zero]
          refine ⟨?_, ?_⟩
          focus
            unfold opGoal
            rw [if_pos (by kernel_rfl)]
            intro x hb hd K hk
            clear hd
            have l0 := StR.cell hb n6 hne7
            go_wp2_with fail
            exact hk _ _ rfl trivial (StR.refl _ _ _ _ _)
          rintro _ rfl
          simp only [Act.put, List.setIfInBounds_toArray, List.set_cons_succ, List.set_cons_zero]
          refine ⟨?_, ?_⟩
          focus
            unfold opGoal
            rw [if_pos (by kernel_rfl)]
            intro x hb hd K hk
            clear hd
            go_wp2_with fail
            refine (Hid.out HF x).mono ?_
            rintro e x' ⟨v, rfl, hv, hb'⟩
            obtain ⟨gv, rfl, hv2⟩ := hv
            exact hk _ _ ⟨_, rfl⟩ (AtV.mono ⟨gv, rfl, hv2⟩ (by have := hb.but.size; have := hlt6; omega)) (StR.of hb')
          rintro _ ⟨gc, rfl⟩
          simp only [Act.put, List.setIfInBounds_toArray, List.set_cons_succ, List.set_cons_zero]
          refine ⟨?_, ?_⟩
          focus
            unfold opGoal
            rw [if_pos (by kernel_rfl)]
            intro x hb hd K hk
            have hE := hd _ (List.mem_cons_self ..) rfl _ _ rfl rfl
            clear hd
            go_wp2_with fail
            exact hk _ _ ⟨_, rfl⟩ hE (StR.refl _ _ _ _ _)
          rintro _ ⟨ge, rfl⟩
          simp only [Act.put, List.setIfInBounds_toArray, List.set_cons_succ, List.set_cons_zero]
          intro x hbx hf
          have hEx := hf 6 (errI _ _ _ _ (k+1) aT) (.iface 127 (.pointer (some ⟨ge, 0, none⟩))) (by kernel_rfl) (by kernel_rfl)
          unfold errI at hEx
          simp only at hEx
          have HEX := Lib.hid hEx
          have hQ4 := (hbx.st hQ6).elim id id
          have HR7 := Lib.hid (show Rdr x B S s (k+1) from ⟨hbx.but.blk HR6.out.1 hne6, hbx.but.blk HR6.out.2 (Blk.apart HR6.out.2 hQ6 (by decide))⟩)
          have HB7 := Lib.hid (show But B w x from ⟨hbx.but.os.trans HB6.out.os, hbx.but.tape.trans HB6.out.tape, hbx.but.output.trans HB6.out.output, Nat.le_trans HB6.out.size hbx.but.size, fun k hk hn => (hbx.but.block k (Nat.lt_of_lt_of_le hk HB6.out.size) (by omega)).trans (HB6.out.block k hk hn)⟩)
          clear hf hEx hbx hQ6 r6 n6 HR6 HB6
          have q0 := hQ4.cell 0
          have q1 := hQ4.cell 1
          have q2 := hQ4.cell 2
          have f0 := hQ4.frozen 0
          have f1 := hQ4.frozen 1
          have f2 := hQ4.frozen 2
          simp only [List.getElem?_toArray, List.getElem?_cons_zero, List.getElem?_cons_succ] at q0 q1 q2
          have HQ7 := Lib.hid hQ4
          clear hQ4
          go_wp2_with fail
          have hQf := HQ7.out.set3 (.int .i64 0) (.bool false) (.slice none 0 0)
          have hB8 := But.set3 w.heap.size x (.int .i64 0) (.bool false) (.slice none 0 0)
          have hRf := HR7.out.but HQ7.out hB8
          have hEf := (AtE.of HEX.out haT).word hB8 q1
          have hBf := HB7.out.of2 (below_set3 (Below.refl w.heap.size x) (Nat.le_refl _) (.int .i64 0) (.bool false) (.slice none 0 0))
          have t0 := hQf.cell 0
          have t1 := hQf.cell 1
          have t2 := hQf.cell 2
          simp only [List.getElem?_toArray, List.getElem?_cons_zero, List.getElem?_cons_succ] at t0 t1 t2
          refine bodyPost_ret (v := .tuple #[.agg #[(.int .i64 0), (.bool false), (.slice none 0 0)], (.iface 127 (.pointer (some ⟨ge, 0, none⟩)))]) (by simp [results, Tryd.results30, go_sem, t0, t1, t2]) rfl ?_
          rw [HRe.out]
          exact ⟨0, _, _, rfl, hEf, hRf, hBf⟩
end Go.Proofs.YtlhpflilpdceiaaDoor
