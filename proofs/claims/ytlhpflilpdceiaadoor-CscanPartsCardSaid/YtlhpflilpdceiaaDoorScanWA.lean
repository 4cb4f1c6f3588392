/- The walk over package cscan's word: between quotes. Bounds on the lengths. -/
import Derived.Test.YtlhpflilpdceiaaDoorScanW9
set_option linter.unusedVariables false
set_option linter.unusedSimpArgs false
namespace Go.Proofs.YtlhpflilpdceiaaDoor
open Go.RowKit

/-- An error with a place, laid behind that block, whose form is known. -/
def errI (g : Nat) (t : TypeId) (ini fin : Array Value) (i : Nat) (a : Addr) : TTR (StR g t ini fin) := ⟨fun v => ∃ b, v = .iface 127 (.pointer (some ⟨b, 0, none⟩)), ⟨_, 0, rfl⟩, fun v x => AtV x (g + 1) i a v, fun v _ _ h hr =>
  let ⟨b, h1, h2, h3, h4⟩ := h
  ⟨b, h1, h2, hr.but.cell h3 (by show b ≠ g; omega), hr.but.cell h4 (by show b ≠ g; omega)⟩⟩
set_option maxRecDepth 100000 in
set_option maxHeartbeats 4000000 in
theorem word_quo_any (B S : Nat) (s : ByteArray) (i : Nat) (Ls : List Addr) (w : World) (h : Rdr w B S s i) (hE : SenB w Ls B) (hs : s.size ≤ 8192) (hi : i < s.size) (hcc : s.data.toList[i]'hi = 34) :
    Calls Tryd.prog 30 #[.pointer (some ⟨B, 0, none⟩)] w (WdRet (wordA s.data.toList i) Ls B S s w) := by
  obtain ⟨w2, hw2⟩ : ∃ w2, w2 = (w.alloc (.cells #[.int .i64 0, .bool false, .slice none 0 0] 36)).alloc (.cells #[.int .i64 i, .bool false, .slice none 0 0] 36) := ⟨_, rfl⟩
  obtain ⟨aT, haT⟩ : ∃ a, Ls[6]? = some a := ⟨Ls[6]'(by rw [hE.sen.len]; decide), List.getElem?_eq_getElem _⟩
  have hb2 : Below w.heap.size w w2 := by rw [hw2]; exact below3 _ _ _
  have HQ2 := Lib.hid (show Blk w2 w.heap.size 36 #[.int .i64 0, .bool false, .slice none 0 0] by rw [hw2]; exact (Blk.new w _ _).below ((Below.refl _ _).alloc (Nat.le_refl _) _))
  have HP2 := Lib.hid (show Blk w2 (w.heap.size + 1) 36 #[.int .i64 i, .bool false, .slice none 0 0] by
    rw [hw2]
    have := Blk.new (w.alloc (.cells #[.int .i64 0, .bool false, .slice none 0 0] 36)) 36 #[.int .i64 i, .bool false, .slice none 0 0]
    rwa [alloc_size] at this)
  have HR2 := Lib.hid (h.below hb2)
  have HE2 := Lib.hid (hE.below hb2)
  have HB2 := Lib.hid (But.of hb2 (B := B))
  have HW2 := Lib.hid hw2
  have HLT := Lib.hid (show B < w.heap.size from h.1.lt)
  have r1 := (h.below ((Below.refl w.heap.size w).alloc (Nat.le_refl _) (.cells #[.int .i64 0, .bool false, .slice none 0 0] 36))).c1
  clear hw2 hb2 h hE
  obtain ⟨L, hL⟩ : ∃ L, L = s.data.toList := ⟨_, rfl⟩
  have hn : L.length = s.size := by rw [hL]; rfl
  have hi' : i < L.length := by omega
  have HPK := Lib.hid (fun (W : World) (hr : Rdr W B S s i) => peek_any B S s i W hr)
  have HQD := Lib.hid (fun (W : World) (hr : Rdr W B S s i) (he : SenB W Ls B) => quoted_any B S s i Ls W hr he hs hi)
  have HEN0 := Lib.hid (fun (j : Nat) (W : World) (hr : Rdr W B S s j) => ends_any B S s j W hr)
  have hcc' : L[i] = 34 := by subst hL; exact hcc
  rw [← hL] at HPK HQD HEN0 ⊢
  have hPK2 : ∀ W, Rdr W B S s i → Calls Tryd.prog 29 #[.pointer (some ⟨B, 0, none⟩)] W (Ret W (.tuple #[.int .u8 34, .bool true])) := fun W hr => by
    have := HPK.out W hr
    rwa [byteV_in hi', hcc'] at this
  replace HPK := Lib.hid hPK2
  have HL := Lib.hid hL
  have HWA := Lib.hid (wordA_quo hi' hcc')
  obtain ⟨R, hR⟩ : ∃ R, R = wordA L i := ⟨_, rfl⟩
  rw [← hR]
  have HR := Lib.hid hR
  have HQB := Lib.hid (show w.heap.size ≠ B by have := HLT.out; omega)
  have HPB := Lib.hid (show w.heap.size + 1 ≠ B by have := HLT.out; omega)
  have hne : w.heap.size ≠ w.heap.size + 1 := by omega
  clear hcc hcc' hR hL hPK2
  go_enter Tryd.func30, Tryd.ntmps30
  go_upto_region 2 with (fail)
  rw [← HW2.out]
  clear HW2 r1
  go_wp2_with fail
  refine (HPK.out _ HR2.out).mono ?_
  rintro e w3 ⟨rfl, hb3⟩
  replace HQ2 := Lib.hid (HQ2.out.below hb3)
  replace HP2 := Lib.hid (HP2.out.below hb3)
  replace HR2 := Lib.hid (HR2.out.below hb3)
  replace HE2 := Lib.hid (HE2.out.below hb3)
  replace HB2 := Lib.hid (HB2.out.trans (But.of hb3))
  clear hb3
  go_wp2_with fail
  refine (HQD.out _ HR2.out HE2.out).mono ?_
  cases hp : quoL L i with
  | err k a =>
    rintro e w4 ⟨v, j, rfl, hE4, hR4, hB4⟩
    have HRe := Lib.hid (show R = .err k a by rw [HR.out, HWA.out, hp])
    have hQ4 := hB4.blk HQ2.out HQB.out
    have hP4 := hB4.blk HP2.out HPB.out
    have HB4 := Lib.hid (HB2.out.trans hB4)
    have HR4 := Lib.hid hR4
    have HE4 := Lib.hid hE4
    obtain ⟨_, _, ge, _, _, hv, _, _⟩ := hE4
    subst hv
    clear hp hR4 hB4
    have p0 := hP4.cell 0
    have p1 := hP4.cell 1
    have p2 := hP4.cell 2
    have q0 := hQ4.cell 0
    have q1 := hQ4.cell 1
    have q2 := hQ4.cell 2
    have g1 := hP4.frozen 1
    have g2 := hP4.frozen 2
    have f0 := hQ4.frozen 0
    have f1 := hQ4.frozen 1
    have f2 := hQ4.frozen 2
    simp only [List.getElem?_toArray, List.getElem?_cons_zero, List.getElem?_cons_succ] at p0 p1 p2 q0 q1 q2
    have HQ4 := Lib.hid hQ4
    have HP4 := Lib.hid hP4
    clear hQ4 hP4
    go_wp2_with fail
    have hQ5 := HQ4.out.other (a := ⟨w.heap.size + 1, 2, none⟩) hne (.slice none 0 0)
    have hB5 := But.set (B := w.heap.size + 1) w4 2 (.slice none 0 0)
    have hQf := hQ5.set3 (.int .i64 0) (.bool false) (.slice none 0 0)
    have hB6 := But.set3 w.heap.size (w4.setCell ⟨w.heap.size + 1, 2, none⟩ (.slice none 0 0)) (.int .i64 0) (.bool false) (.slice none 0 0)
    have hRf := (HR4.out.but HP4.out hB5).but hQ5 hB6
    have hEf := (HE4.out.word hB5 p1).word hB6 (hQ5.cell 1)
    have hBf := HB4.out.of2 (below_set3 ((Below.refl w.heap.size w4).setCell (p := ⟨w.heap.size + 1, 2, none⟩) (by show w.heap.size ≤ w.heap.size + 1; omega) (.slice none 0 0)) (Nat.le_refl _) (.int .i64 0) (.bool false) (.slice none 0 0))
    have t0 := hQf.cell 0
    have t1 := hQf.cell 1
    have t2 := hQf.cell 2
    simp only [List.getElem?_toArray, List.getElem?_cons_zero, List.getElem?_cons_succ] at t0 t1 t2
    refine bodyPost_ret (v := .tuple #[.agg #[(.int .i64 0), (.bool false), (.slice none 0 0)], (.iface 127 (.pointer (some ⟨ge, 0, none⟩)))]) (by simp [results, Tryd.results30, go_sem, t0, t1, t2]) rfl ?_
    rw [HRe.out]
    exact ⟨0, _, j, rfl, hEf, hRf, hBf⟩
  | ok ps j r =>
    rintro e w4 ⟨v, rfl, hO4, hR4, hB4⟩
    obtain ⟨A4, c4, hv4, -, -, -, -⟩ := own_form hO4
    subst hv4
    have HR0 := Lib.hid (show R = if endsA L j = true then .ok ⟨i, false, ps⟩ j r else .err 7 j by rw [HR.out, HWA.out, hp])
    have HRT := Lib.hid (show stopA L endB j = true → R = .ok ⟨i, false, ps⟩ j r from fun h => by rw [HR0.out, if_pos (by rw [← stopA_ends]; exact h)])
    have HRF := Lib.hid (show stopA L endB j = false → R = .err 7 j from fun h => by rw [HR0.out, if_neg (by rw [← stopA_ends, h]; decide)])
    have HEN := Lib.hid (HEN0.out j)
    have hQ4 := hB4.blk HQ2.out HQB.out
    have hP4 := hB4.blk HP2.out HPB.out
    have HB4 := Lib.hid (HB2.out.trans hB4)
    have HR4 := Lib.hid hR4
    have HE4 := Lib.hid (HE2.out.but hB4)
    have HO4 := Lib.hid (hO4.mono HB2.out.size)
    clear hp hR4 hO4 hB4 HR0 HEN0
    have p0 := hP4.cell 0
    have p1 := hP4.cell 1
    have p2 := hP4.cell 2
    have q0 := hQ4.cell 0
    have q1 := hQ4.cell 1
    have q2 := hQ4.cell 2
    have g1 := hP4.frozen 1
    have g2 := hP4.frozen 2
    have f0 := hQ4.frozen 0
    have f1 := hQ4.frozen 1
    have f2 := hQ4.frozen 2
    simp only [List.getElem?_toArray, List.getElem?_cons_zero, List.getElem?_cons_succ] at p0 p1 p2 q0 q1 q2
    have HQ4 := Lib.hid hQ4
    have HP4 := Lib.hid hP4
    clear hQ4 hP4
    go_wp2_with fail
    have hB5 := But.set (B := w.heap.size + 1) w4 2 (.slice A4 ps.length c4)
    have hP5 := HP4.out.set 2 (.slice A4 ps.length c4)
    simp only [List.setIfInBounds_toArray, List.set_cons_succ, List.set_cons_zero] at hP5
    have HP5 := Lib.hid hP5
    have HQ5 := Lib.hid (HQ4.out.other (a := ⟨w.heap.size + 1, 2, none⟩) hne (.slice A4 ps.length c4))
    have HR5 := Lib.hid (HR4.out.but HP4.out hB5)
    have HO5 := Lib.hid (HO4.out.but hB5 HP4.out (by decide))
    have hbb := (Below.refl w.heap.size w4).setCell (p := ⟨w.heap.size + 1, 2, none⟩) (by show w.heap.size ≤ w.heap.size + 1; omega) (.slice A4 ps.length c4)
    have HB5 := Lib.hid (HB4.out.of2 hbb)
    have HE5 := Lib.hid (show SenB (w4.setCell ⟨w.heap.size + 1, 2, none⟩ (.slice A4 ps.length c4)) Ls B from ⟨⟨HE4.out.sen.len, fun i g a h1 h2 => hB5.cell (HE4.out.sen.var i g a h1 h2) (by have := HE4.out.gs g (List.mem_of_getElem? h1); have := HLT.out; show g ≠ w.heap.size + 1; omega), fun a ha => (HE4.out.sen.blk a ha).imp fun _ h => h.imp fun _ h => hB5.blk h (by have := HE4.out.ad a ha; have := HLT.out; omega), HE4.out.sen.inj⟩, HE4.out.gs, HE4.out.ad⟩)
    clear hB5 hP5 hbb p0 p1 p2 q0 q1 q2 g1 g2 f0 f1 f2
    generalize w4.setCell ⟨w.heap.size + 1, 2, none⟩ (.slice A4 ps.length c4) = w5 at *
    refine (HEN.out _ HR5.out).mono ?_
    cases hst : stopA L endB (j) with
    | true =>
      rintro e w6 ⟨rfl, hb6⟩
      have HRe := Lib.hid (HRT.out hst)
      have hQ4 := HQ5.out.below hb6
      have hP4 := HP5.out.below hb6
      have HR6 := Lib.hid (HR5.out.below hb6)
      have HO6 := Lib.hid (HO5.out.below hb6)
      have HB6 := Lib.hid (HB5.out.trans (But.of hb6))
      clear hb6 hst
      have p0 := hP4.cell 0
      have p1 := hP4.cell 1
      have p2 := hP4.cell 2
      have q0 := hQ4.cell 0
      have q1 := hQ4.cell 1
      have q2 := hQ4.cell 2
      have g1 := hP4.frozen 1
      have g2 := hP4.frozen 2
      have f0 := hQ4.frozen 0
      have f1 := hQ4.frozen 1
      have f2 := hQ4.frozen 2
      simp only [List.getElem?_toArray, List.getElem?_cons_zero, List.getElem?_cons_succ] at p0 p1 p2 q0 q1 q2
      have HQ6 := Lib.hid hQ4
      have HP6 := Lib.hid hP4
      clear hQ4 hP4
      go_wp2_with fail
      have hQf := HQ6.out.set3 (.int .i64 i) (.bool false) (.slice A4 ps.length c4)
      have hB7 := But.set3 w.heap.size w6 (.int .i64 i) (.bool false) (.slice A4 ps.length c4)
      have hRf := HR6.out.but HQ6.out hB7
      have hOf := HO6.out.but hB7 HQ6.out (by decide)
      have hBf := HB6.out.of2 (below_set3 (Below.refl w.heap.size w6) (Nat.le_refl _) (.int .i64 i) (.bool false) (.slice A4 ps.length c4))
      have t0 := hQf.cell 0
      have t1 := hQf.cell 1
      have t2 := hQf.cell 2
      simp only [List.getElem?_toArray, List.getElem?_cons_zero, List.getElem?_cons_succ] at t0 t1 t2
      refine bodyPost_ret (v := .tuple #[.agg #[(.int .i64 i), (.bool false), (.slice A4 ps.length c4)], .nilIface]) (by simp [results, Tryd.results30, go_sem, t0, t1, t2]) rfl ?_
      rw [HRe.out]
      exact ⟨_, rfl, hOf, hRf, hBf⟩
    | false =>
      rintro e w6 ⟨rfl, hb6⟩
      have HRe := Lib.hid (HRF.out hst)
      have hQ6 := HQ5.out.below hb6
      have HR6 := Lib.hid (HR5.out.below hb6)
      have HB6 := Lib.hid (HB5.out.trans (But.of hb6))
      have n6 := (HE5.out.below hb6).sen.var 6 _ aT rfl haT
      have r6 := HR6.out.c1
      have hlt6 := hQ6.lt
      have hne6 : B ≠ w.heap.size := Blk.apart HR6.out.1 hQ6 (by decide)
      have hne7 : 2 ≠ w.heap.size := by
        intro e
        have h0 := hQ6.cell 0
        rw [← e, n6] at h0
        cases h0
      have HF := Lib.hid (fun W => cfault_any (j) aT W)
      clear hb6 hst HO5 HP5 HQ5 HR5 HB5 HE5
      go_wp2_with fail
      apply wp_region_st w.heap.size 36 #[.int .i64 0, .bool false, .slice none 0 0] #[.int .i64 0, .bool false, .slice none 0 0] [eqT _, eqT _, eqT _, eqT _, eqT _, errI _ _ _ _ (j) aT, errI _ _ _ _ (j) aT] (by kernel_rfl) (by kernel_rfl) rfl
      focus
        refine ⟨?_, ?_⟩
        focus
          unfold opGoal
          rw [if_pos (by kernel_rfl)]
          intro x hb hd K hk
          clear hd
          go_wp2_with fail
          exact hk _ _ rfl trivial (StR.refl _ _ _ _ _)
        rintro _ rfl
        simp only [Act.put, List.setIfInBounds_toArray, List.set_cons_succ, List.set_cons_zero]
        refine ⟨?_, ?_⟩
        focus
          unfold opGoal
          rw [if_pos (by kernel_rfl)]
          intro x hb hd K hk
          clear hd
          go_wp2_with fail
          exact hk _ _ rfl trivial (StR.refl _ _ _ _ _)
        rintro _ rfl
        simp only [Act.put, List.setIfInBounds_toArray, List.set_cons_succ, List.set_cons_zero]
        refine ⟨?_, ?_⟩
        focus
          unfold opGoal
          rw [if_pos (by kernel_rfl)]
          intro x hb hd K hk
          clear hd
          go_wp2_with fail
          exact hk _ _ rfl trivial (StR.refl _ _ _ _ _)
        rintro _ rfl
        simp only [Act.put, List.setIfInBounds_toArray, List.set_cons_succ, List.set_cons_zero]
        refine ⟨?_, ?_⟩
        focus
          unfold opGoal
          rw [if_pos (by kernel_rfl)]
          intro x hb hd K hk
          clear hd
          have l0 := StR.cell hb r6 hne6
          go_wp2_with fail
          exact hk _ _ rfl trivial (StR.refl _ _ _ _ _)
        rintro _ rfl
        simp only [Act.put, List.setIfInBounds_toArray, List.set_cons_succ, List.set_cons_zero]
        refine ⟨?_, ?_⟩
        focus
          unfold opGoal
          rw [if_pos (by kernel_rfl)]
          intro x hb hd K hk
          clear hd
          have l0 := StR.cell hb n6 hne7
          go_wp2_with fail
          exact hk _ _ rfl trivial (StR.refl _ _ _ _ _)
        rintro _ rfl
        simp only [Act.put, List.setIfInBounds_toArray, List.set_cons_succ, List.set_cons_zero]
        refine ⟨?_, ?_⟩
        focus
          unfold opGoal
          rw [if_pos (by kernel_rfl)]
          intro x hb hd K hk
          clear hd
          go_wp2_with fail
          refine (Hid.out HF x).mono ?_
          rintro e x' ⟨v, rfl, hv, hb'⟩
          obtain ⟨gv, rfl, hv2⟩ := hv
          exact hk _ _ ⟨_, rfl⟩ (AtV.mono ⟨gv, rfl, hv2⟩ (by have := hb.but.size; have := hlt6; omega)) (StR.of hb')
        rintro _ ⟨gc, rfl⟩
        simp only [Act.put, List.setIfInBounds_toArray, List.set_cons_succ, List.set_cons_zero]
        refine ⟨?_, ?_⟩
        focus
          unfold opGoal
          rw [if_pos (by kernel_rfl)]
          intro x hb hd K hk
          have hE := hd _ (List.mem_cons_self ..) rfl _ _ rfl rfl
          clear hd
          go_wp2_with fail
          exact hk _ _ ⟨_, rfl⟩ hE (StR.refl _ _ _ _ _)
        rintro _ ⟨ge, rfl⟩
        simp only [Act.put, List.setIfInBounds_toArray, List.set_cons_succ, List.set_cons_zero]
        intro x hbx hf
        have hEx := hf 6 (errI _ _ _ _ (j) aT) (.iface 127 (.pointer (some ⟨ge, 0, none⟩))) (by kernel_rfl) (by kernel_rfl)
        unfold errI at hEx
        simp only at hEx
        have HEX := Lib.hid hEx
        have hQ4 := (hbx.st hQ6).elim id id
        have HR7 := Lib.hid (show Rdr x B S s (j) from ⟨hbx.but.blk HR6.out.1 hne6, hbx.but.blk HR6.out.2 (Blk.apart HR6.out.2 hQ6 (by decide))⟩)
        have HB7 := Lib.hid (show But B w x from ⟨hbx.but.os.trans HB6.out.os, hbx.but.tape.trans HB6.out.tape, hbx.but.output.trans HB6.out.output, Nat.le_trans HB6.out.size hbx.but.size, fun k hk hn => (hbx.but.block k (Nat.lt_of_lt_of_le hk HB6.out.size) (by omega)).trans (HB6.out.block k hk hn)⟩)
        clear hf hEx hbx hQ6 r6 n6 HR6 HB6
        have q0 := hQ4.cell 0
        have q1 := hQ4.cell 1
        have q2 := hQ4.cell 2
        have f0 := hQ4.frozen 0
        have f1 := hQ4.frozen 1
        have f2 := hQ4.frozen 2
        simp only [List.getElem?_toArray, List.getElem?_cons_zero, List.getElem?_cons_succ] at q0 q1 q2
        have HQ7 := Lib.hid hQ4
        clear hQ4
        go_wp2_with fail
        have hQf := HQ7.out.set3 (.int .i64 0) (.bool false) (.slice none 0 0)
        have hB8 := But.set3 w.heap.size x (.int .i64 0) (.bool false) (.slice none 0 0)
        have hRf := HR7.out.but HQ7.out hB8
        have hEf := (AtE.of HEX.out haT).word hB8 q1
        have hBf := HB7.out.of2 (below_set3 (Below.refl w.heap.size x) (Nat.le_refl _) (.int .i64 0) (.bool false) (.slice none 0 0))
        have t0 := hQf.cell 0
        have t1 := hQf.cell 1
        have t2 := hQf.cell 2
        simp only [List.getElem?_toArray, List.getElem?_cons_zero, List.getElem?_cons_succ] at t0 t1 t2
        refine bodyPost_ret (v := .tuple #[.agg #[(.int .i64 0), (.bool false), (.slice none 0 0)], (.iface 127 (.pointer (some ⟨ge, 0, none⟩)))]) (by simp [results, Tryd.results30, go_sem, t0, t1, t2]) rfl ?_
        rw [HRe.out]
        exact ⟨0, _, _, rfl, hEf, hRf, hBf⟩
end Go.Proofs.YtlhpflilpdceiaaDoor
