/- The walks over package cscan's Text, wrapped, one. Bounds on the lengths. -/
import Derived.Test.YtlhpflilpdceiaaDoorScanWC
set_option linter.unusedVariables false
set_option linter.unusedSimpArgs false
namespace Go.Proofs.YtlhpflilpdceiaaDoor
open Go.RowKit

set_option maxHeartbeats 1000000 in
theorem ctext_any (x : CWord) (v : Value) (w : World) (h : RdP w v x.parts) : Calls Tryd.prog 13 #[.agg #[.int .i64 x.pos, .bool x.braced, v]] w (Ret w (.tuple #[.string ⟨(textW x).1.toArray⟩, .bool (textW x).2])) := by
  obtain ⟨A, c, rfl, hrd, -⟩ := h
  obtain ⟨pos, br, ps⟩ := x
  simp only at hrd ⊢
  have hbl : ∀ o, Below w.heap.size w (w.alloc o) := fun o => (Below.refl _ _).alloc (Nat.le_refl _) _
  match ps, hrd with
  | [], hrd =>
    go_enter Tryd.func13, Tryd.ntmps13
    go_wp2_with fail
    go_ret2
    exact ⟨rfl, hbl _⟩
  | [p], hrd =>
    obtain ⟨b, o, hA, -⟩ := hrd.addr (by simp)
    subst hA
    obtain ⟨d0, d1, d2, d3⟩ := RdL.cparts (hrd.below (hbl (.cells #[.int .i64 pos, .bool br, .slice (some ⟨b, o, none⟩) 1 c] 36))) (k := 0) (by simp)
    simp only [List.getElem_cons_zero, Nat.zero_mul, Nat.add_zero] at d0 d1 d2 d3
    have ht : textW ⟨pos, br, [p]⟩ = if p.kind = 1 then (p.s, true) else ([], false) := rfl
    rw [ht]
    clear ht hrd d1 d2
    by_cases hk : p.kind = 1
    · rw [if_pos hk]
      have e1 : ((p.kind : Int) == 1) = true := by rw [hk]; rfl
      clear hk
      go_enter Tryd.func13, Tryd.ntmps13
      go_wp2_with fail
      go_ret2
      exact ⟨rfl, hbl _⟩
    · rw [if_neg hk]
      have e1 : ((p.kind : Int) == 1) = false := by rw [beq_eq_false_iff_ne]; omega
      clear hk
      go_enter Tryd.func13, Tryd.ntmps13
      go_wp2_with fail
      go_ret2
      exact ⟨rfl, hbl _⟩
  | p :: q :: t, hrd =>
    have ht : textW ⟨pos, br, p :: q :: t⟩ = ([], false) := rfl
    rw [ht]
    obtain ⟨m, hm⟩ : ∃ m, m = (p :: q :: t).length := ⟨_, rfl⟩
    have hm2 : 2 ≤ m := by rw [hm]; simp
    rw [← hm]
    have e1 : ((m : Int) == 1) = false := by rw [beq_eq_false_iff_ne]; omega
    clear hrd ht hm
    go_enter Tryd.func13, Tryd.ntmps13
    go_wp2_with fail
    go_ret2
    exact ⟨rfl, hbl _⟩
theorem wrapped_any (s : ByteArray) (w : World) (hs : s.size ≤ 8192) : Calls Tryd.prog 42 #[.string s] w fun e w' => e = .returned (.pointer (some ⟨w.heap.size, 0, none⟩)) ∧ w' = w.alloc (.cells #[.string s] 113) := by
  have HN := Lib.hid (snew_any s w hs)
  go_enter Tryd.func42, Tryd.ntmps42
  go_wp2_with fail
  refine HN.out.mono ?_
  rintro e w1 ⟨rfl, rfl⟩
  go_wp2_with fail
  go_ret
  exact ⟨rfl, rfl⟩
/-- The word that a text is, if it is one. -/
def OneRet (s : List UInt8) (w : World) (e : Ending) (w' : World) : Prop := ∃ (x : CWord) (v : Value) (b : Bool), e = .returned (.tuple #[.agg #[.int .i64 x.pos, .bool x.braced, v], .bool b]) ∧ OwnP tP w' w.heap.size v x.parts ∧ Below w.heap.size w w' ∧ oneL s = if b then some x else none
theorem ba_app2 (s : ByteArray) (t : List UInt8) : (s ++ ⟨t.toArray⟩ : ByteArray) = ⟨(s.data.toList ++ t).toArray⟩ := by
  apply ByteArray.ext
  simp
set_option maxRecDepth 100000 in
set_option maxHeartbeats 4000000 in
theorem one_any (s : ByteArray) (Ls : List Addr) (w : World) (hE : SenW w Ls) (hs : s.size ≤ 8000) : Calls Tryd.prog 24 #[.string s] w (OneRet s.data.toList w) := by
  obtain ⟨s2, hs2⟩ : ∃ s2 : ByteArray, s2 = s ++ ⟨#[32]⟩ := ⟨_, rfl⟩
  have hl2 : s2.data.toList = s.data.toList ++ [32] := by rw [hs2]; simp
  have hz2 : s2.size = s.size + 1 := by
    have := congrArg List.length hl2
    simpa using this
  obtain ⟨w1, hw1⟩ : ∃ w1, w1 = w.alloc (.cells #[.int .i64 0, .bool false, .slice none 0 0] 36) := ⟨_, rfl⟩
  obtain ⟨w3, hw3⟩ : ∃ w3, w3 = (w1.alloc (.cells #[.string s2] 113)).alloc (.cells #[.pointer (some ⟨w1.heap.size, 0, none⟩), .int .i64 0] 79) := ⟨_, rfl⟩
  obtain ⟨S, hSe⟩ : ∃ S, S = w1.heap.size := ⟨_, rfl⟩
  obtain ⟨B, hBe⟩ : ∃ B, B = S + 1 := ⟨_, rfl⟩
  have hb1 : Below w.heap.size w w1 := by rw [hw1]; exact (Below.refl _ _).alloc (Nat.le_refl _) _
  have hz1 : w1.heap.size = w.heap.size + 1 := by rw [hw1]; exact alloc_size _ _
  have hb3 : Below w1.heap.size w1 w3 := by rw [hw3]; exact below3 _ _ _
  have hR3 : Rdr w3 B S s2 0 := by
    rw [hw3, hBe, hSe]
    have := Blk.new (w1.alloc (.cells #[.string s2] 113)) 79 #[.pointer (some ⟨w1.heap.size, 0, none⟩), .int .i64 0]
    rw [alloc_size] at this
    exact ⟨this, (Blk.new w1 _ _).below ((Below.refl _ _).alloc (Nat.le_refl _) _)⟩
  have hQ3 : Blk w3 w.heap.size 36 #[.int .i64 0, .bool false, .slice none 0 0] := by
    refine Blk.below ?_ hb3
    rw [hw1]
    exact Blk.new w _ _
  have HBW := Lib.hid (show w.heap.size < B by omega)
  have hb : Below w.heap.size w w3 := hb1.trans (hb3.mono hb1.size)
  have HSB := Lib.hid (((SenB.of hE).below hb).mono (show w.heap.size ≤ B by omega))
  have HWR := Lib.hid (wrapped_any s2 w1 (by omega))
  have HWD := Lib.hid (word_any B S s2 0 Ls w3 hR3 HSB.out (by omega) (by omega))
  have HONE := Lib.hid (show oneL s.data.toList = match wordL 0 s2.data.toList with
    | .err _ _ => none
    | .ok w j _ => if s.size ≠ 0 ∧ j = s.size then some w else none by rw [hl2]; rfl)
  have HR3 := Lib.hid hR3
  have HQ3 := Lib.hid hQ3
  have HB3 := Lib.hid hb
  have HW1 := Lib.hid hw1
  have HW3 := Lib.hid hw3
  have HSE := Lib.hid hSe
  have HBE := Lib.hid hBe
  have HS2 := Lib.hid hs2
  have HZ1 := Lib.hid hz1
  have r0 := hR3.c0
  have r1 := hR3.c1
  clear hE hs2 hl2 hw1 hw3 hSe hBe hb1 hz1 hb3 hR3 hQ3 hb hz2
  go_enter Tryd.func24, Tryd.ntmps24
  go_wp2_with fail
  rw [← HW1.out, ← HS2.out]
  refine HWR.out.mono ?_
  rintro e wz ⟨rfl, rfl⟩
  go_upto_region 2 with (fail)
  rw [← HW3.out, ← HSE.out, ← HBE.out]
  have HQB := Lib.hid (show w.heap.size ≠ B by have := HBW.out; omega)
  have hwa : wordA s2.data.toList 0 = wordL 0 s2.data.toList := by unfold wordA; rw [List.drop_zero]
  by_cases h0 : s.size = 0
  · have he : s.toList.isEmpty = true := by
      rw [Lib.toList_data]
      have : s.data.toList = [] := List.eq_nil_of_length_eq_zero (by simpa using h0)
      rw [this]
      rfl
    have HN := Lib.hid (show oneL s.data.toList = none by
      rw [HONE.out]
      cases wordL 0 s2.data.toList with
      | err k a => rfl
      | ok x j r =>
        simp only
        rw [if_neg (fun h => h.1 h0)])
    have q0 := HQ3.out.cell 0
    have q1 := HQ3.out.cell 1
    have q2 := HQ3.out.cell 2
    have f0 := HQ3.out.frozen 0
    have f1 := HQ3.out.frozen 1
    have f2 := HQ3.out.frozen 2
    simp only [List.getElem?_toArray, List.getElem?_cons_zero, List.getElem?_cons_succ] at q0 q1 q2
    clear hwa h0
    go_wp2_with fail
    have hQf := HQ3.out.set3 (.int .i64 0) (.bool false) (.slice none 0 0)
    have hBf := below_set3 HB3.out (Nat.le_refl _) (.int .i64 0) (.bool false) (.slice none 0 0)
    have t0 := hQf.cell 0
    have t1 := hQf.cell 1
    have t2 := hQf.cell 2
    simp only [List.getElem?_toArray, List.getElem?_cons_zero, List.getElem?_cons_succ] at t0 t1 t2
    refine bodyPost_ret (v := .tuple #[.agg #[.int .i64 0, .bool false, .slice none 0 0], .bool false]) (by simp [results, Tryd.results24, go_sem, t0, t1, t2]) rfl ?_
    exact ⟨⟨0, false, []⟩, _, false, rfl, OwnP.nil _ _, hBf, HN.out⟩
  · have he : s.toList.isEmpty = false := by
      rw [Lib.toList_data, List.isEmpty_eq_false_iff]
      exact fun h => h0 (by have := congrArg List.length h; simpa using this)
    go_wp2_with fail
    refine HWD.out.mono ?_
    rw [hwa]
    cases hw : wordL 0 s2.data.toList with
    | err k a =>
      rintro e w4 ⟨p0, v, j, rfl, hE4, hR4, hB4⟩
      obtain ⟨_, _, ge, _, _, hv, _, _⟩ := hE4
      subst hv
      have HN := Lib.hid (show oneL s.data.toList = none by rw [HONE.out, hw])
      clear hw hwa he
      have K0 := Lib.hid (Blk.new w4 36 #[(.int .i64 p0), (.bool false), (.slice none 0 0)])
      have hbl : Below w4.heap.size w4 (w4.alloc (.cells #[(.int .i64 p0), (.bool false), (.slice none 0 0)] 36)) := (Below.refl _ _).alloc (Nat.le_refl _) _
      have hQ5 := (hB4.blk HQ3.out HQB.out).below hbl
      have hR5 := hR4.below hbl
      have HB5 := Lib.hid ((HB3.out.trans (hB4.below (Nat.le_of_lt HBW.out) HB3.out.size)).trans (hbl.mono (Nat.le_trans HB3.out.size hB4.size)))
      have HO5 := Lib.hid ((OwnP.nil (tp := tP) (w4.alloc (.cells #[.int .i64 p0, .bool false, .slice none 0 0] 36)) w.heap.size))
      obtain ⟨K, hK⟩ : ∃ K, K = w4.heap.size := ⟨_, rfl⟩
      have HKQ := Lib.hid (show K ≠ w.heap.size by
        have h1 := HB3.out.size
        have h2 := hB4.size
        have h3 := HQ3.out.lt
        omega)
      clear HWD HSB HR3 HQ3 HB3 HWR HW3 hR4 hB4 r0 r1 hbl
      go_upto_region 5 with (fail)
      have hK5 := K0.out
      rw [← hK] at hK5 ⊢
      generalize w4.alloc (.cells #[(.int .i64 p0), (.bool false), (.slice none 0 0)] 36) = w5 at *
      have k0 := hK5.cell 0
      have k1 := hK5.cell 1
      have k2 := hK5.cell 2
      have r1 := hR5.c1
      simp only [List.getElem?_toArray, List.getElem?_cons_zero, List.getElem?_cons_succ] at k0 k1 k2
      have hneK := HKQ.out
      have hneB : B ≠ w.heap.size := Blk.apart hR5.1 hQ5 (by decide)
      clear hK K0 hK5 hR5
      apply wp_region_st w.heap.size 36 #[.int .i64 0, .bool false, .slice none 0 0] #[.int .i64 p0, .bool false, .slice none 0 0] [eqT _, eqT _, eqT _, eqT _, eqT _, eqT _, eqT _, eqT _, eqT _, eqT _, eqT _, eqT _, finT _ _ _ _, eqT _] (by kernel_rfl) (by kernel_rfl) rfl
      focus
        refine ⟨?_, ?_⟩
        focus
          unfold opGoal
          rw [if_pos (by kernel_rfl)]
          intro x hb hd K hk
          clear hd
          have l0 := StR.cell hb k0 hneK
          have l1 := StR.cell hb k1 hneK
          have l2 := StR.cell hb k2 hneK
          go_wp2_with fail
          exact hk _ _ rfl trivial (StR.refl _ _ _ _ _)
        rintro _ rfl
        simp only [Act.put, List.setIfInBounds_toArray, List.set_cons_succ, List.set_cons_zero]
        refine ⟨?_, ?_⟩
        focus
          unfold opGoal
          rw [if_pos (by kernel_rfl)]
          intro x hb hd K hk
          clear hd
          go_wp2_with fail
          exact hk _ _ rfl trivial (StR.refl _ _ _ _ _)
        rintro _ rfl
        simp only [Act.put, List.setIfInBounds_toArray, List.set_cons_succ, List.set_cons_zero]
        refine ⟨?_, ?_⟩
        focus
          unfold opGoal
          rw [if_pos (by kernel_rfl)]
          intro x hb hd K hk
          clear hd
          go_wp2_with fail
          exact hk _ _ rfl trivial (StR.refl _ _ _ _ _)
        rintro _ rfl
        simp only [Act.put, List.setIfInBounds_toArray, List.set_cons_succ, List.set_cons_zero]
        refine ⟨?_, ?_⟩
        focus
          unfold opGoal
          rw [if_pos (by kernel_rfl)]
          intro x hb hd K hk
          clear hd
          go_wp2_with fail
          exact hk _ _ rfl trivial (StR.refl _ _ _ _ _)
        rintro _ rfl
        simp only [Act.put, List.setIfInBounds_toArray, List.set_cons_succ, List.set_cons_zero]
        refine ⟨?_, ?_⟩
        focus
          unfold opGoal
          rw [if_neg (not_true (by kernel_rfl))]
          exact ⟨rfl, fun _ => trivial⟩
        rintro _ rfl
        simp only [Act.put, List.setIfInBounds_toArray, List.set_cons_succ, List.set_cons_zero]
        refine ⟨?_, ?_⟩
        focus
          unfold opGoal
          rw [if_neg (not_true (by kernel_rfl))]
          exact ⟨rfl, fun _ => trivial⟩
        rintro _ rfl
        simp only [Act.put, List.setIfInBounds_toArray, List.set_cons_succ, List.set_cons_zero]
        refine ⟨?_, ?_⟩
        focus
          unfold opGoal
          rw [if_neg (not_true (by kernel_rfl))]
          exact ⟨rfl, fun _ => trivial⟩
        rintro _ rfl
        simp only [Act.put, List.setIfInBounds_toArray, List.set_cons_succ, List.set_cons_zero]
        refine ⟨?_, ?_⟩
        focus
          unfold opGoal
          rw [if_neg (not_true (by kernel_rfl))]
          exact ⟨rfl, fun _ => trivial⟩
        rintro _ rfl
        simp only [Act.put, List.setIfInBounds_toArray, List.set_cons_succ, List.set_cons_zero]
        refine ⟨?_, ?_⟩
        focus
          unfold opGoal
          rw [if_neg (not_true (by kernel_rfl))]
          exact ⟨rfl, fun _ => trivial⟩
        rintro _ rfl
        simp only [Act.put, List.setIfInBounds_toArray, List.set_cons_succ, List.set_cons_zero]
        refine ⟨?_, ?_⟩
        focus
          unfold opGoal
          rw [if_neg (not_true (by kernel_rfl))]
          exact ⟨rfl, fun _ => trivial⟩
        rintro _ rfl
        simp only [Act.put, List.setIfInBounds_toArray, List.set_cons_succ, List.set_cons_zero]
        refine ⟨?_, ?_⟩
        focus
          unfold opGoal
          rw [if_neg (not_true (by kernel_rfl))]
          exact ⟨rfl, fun _ => trivial⟩
        rintro _ rfl
        simp only [Act.put, List.setIfInBounds_toArray, List.set_cons_succ, List.set_cons_zero]
        refine ⟨?_, ?_⟩
        focus
          unfold opGoal
          rw [if_pos (by kernel_rfl)]
          intro x hb hd K hk
          clear hd
          go_wp2_with fail
          exact hk _ _ rfl trivial (StR.refl _ _ _ _ _)
        rintro _ rfl
        simp only [Act.put, List.setIfInBounds_toArray, List.set_cons_succ, List.set_cons_zero]
        refine ⟨?_, ?_⟩
        focus
          unfold opGoal
          rw [if_pos (by kernel_rfl)]
          intro x hb hd K hk
          clear hd
          obtain ⟨e0, e1, e2, hI⟩ := hb.has3 hQ5
          have m0 := hI.cell 0
          have m1 := hI.cell 1
          have m2 := hI.cell 2
          have f0 := hI.frozen 0
          have f1 := hI.frozen 1
          have f2 := hI.frozen 2
          have HI := Lib.hid hI
          clear hI
          go_wp2_with fail
          exact hk undef _ trivial (HI.out.set3 _ _ _) (StR.put3 HI.out _ _ _)
        rintro sv -
        simp only [Act.put, List.setIfInBounds_toArray, List.set_cons_succ, List.set_cons_zero]
        refine ⟨?_, ?_⟩
        focus
          unfold opGoal
          rw [if_pos (by kernel_rfl)]
          intro x hb hd K hk
          clear hd
          go_wp2_with fail
          exact hk _ _ rfl trivial (StR.refl _ _ _ _ _)
        rintro _ rfl
        simp only [Act.put, List.setIfInBounds_toArray, List.set_cons_succ, List.set_cons_zero]
        intro xw hbx hf
        have hQx := hf 12 (finT _ _ _ _) sv (by kernel_rfl) (by kernel_rfl)
        unfold finT at hQx
        simp only at hQx
        have HQX := Lib.hid hQx
        have HBX := Lib.hid (show Below w.heap.size w xw from HB5.out.trans (hbx.but.below (Nat.le_refl _) HB5.out.size))
        have HOX := Lib.hid (HO5.out.but hbx.but hQ5 (by decide))
        clear hf hQx hbx hQ5 r1 k0 k1 k2
        go_wp2_with fail
        have t0 := HQX.out.cell 0
        have t1 := HQX.out.cell 1
        have t2 := HQX.out.cell 2
        simp only [List.getElem?_toArray, List.getElem?_cons_zero, List.getElem?_cons_succ] at t0 t1 t2
        refine bodyPost_ret (v := .tuple #[.agg #[.int .i64 p0, .bool false, .slice none 0 0], .bool false]) (by simp [results, Tryd.results24, go_sem, t0, t1, t2]) rfl ?_
        exact ⟨⟨p0, false, []⟩, _, false, rfl, HOX.out, HBX.out, HN.out⟩
    | ok x j r =>
      rintro e w4 ⟨v, rfl, hO4, hR4, hB4⟩
      obtain ⟨A4, c4, hv4, -, -, -, -⟩ := own_form hO4
      subst hv4
      have hj := (wordA_ok (L := s2.data.toList) (i := 0) (by have := h0; have h2 : s2.data.toList.length = s.size + 1 := (by rw [HS2.out]; simp); omega) (hwa.trans hw)).2.2.1
      have hjs : j ≤ 8001 := by have h2 : s2.data.toList.length = s.size + 1 := (by rw [HS2.out]; simp); omega
      have HN := Lib.hid (show oneL s.data.toList = if decide (j = s.size) then some x else none by
        rw [HONE.out, hw]
        simp only
        by_cases hjj : j = s.size
        · rw [if_pos ⟨h0, hjj⟩, decide_eq_true hjj]; rfl
        · rw [if_neg (fun h => hjj h.2), decide_eq_false hjj]; rfl)
      have e1 : ((j : Int) == (s.size : Int)) = decide (j = s.size) := by
        rw [Bool.eq_iff_iff]
        simp only [beq_iff_eq, decide_eq_true_eq]
        omega
      generalize decide (j = s.size) = bb at *
      clear hw hwa he hj
      have K0 := Lib.hid (Blk.new w4 36 #[(.int .i64 x.pos), (.bool x.braced), (.slice A4 x.parts.length c4)])
      have hbl : Below w4.heap.size w4 (w4.alloc (.cells #[(.int .i64 x.pos), (.bool x.braced), (.slice A4 x.parts.length c4)] 36)) := (Below.refl _ _).alloc (Nat.le_refl _) _
      have hQ5 := (hB4.blk HQ3.out HQB.out).below hbl
      have hR5 := hR4.below hbl
      have HB5 := Lib.hid ((HB3.out.trans (hB4.below (Nat.le_of_lt HBW.out) HB3.out.size)).trans (hbl.mono (Nat.le_trans HB3.out.size hB4.size)))
      have HO5 := Lib.hid (((hO4.mono HB3.out.size).below hbl))
      obtain ⟨K, hK⟩ : ∃ K, K = w4.heap.size := ⟨_, rfl⟩
      have HKQ := Lib.hid (show K ≠ w.heap.size by
        have h1 := HB3.out.size
        have h2 := hB4.size
        have h3 := HQ3.out.lt
        omega)
      clear HWD HSB HR3 HQ3 HB3 HWR HW3 hR4 hB4 r0 r1 hbl
      go_upto_region 5 with (fail)
      have hK5 := K0.out
      rw [← hK] at hK5 ⊢
      generalize w4.alloc (.cells #[(.int .i64 x.pos), (.bool x.braced), (.slice A4 x.parts.length c4)] 36) = w5 at *
      have k0 := hK5.cell 0
      have k1 := hK5.cell 1
      have k2 := hK5.cell 2
      have r1 := hR5.c1
      simp only [List.getElem?_toArray, List.getElem?_cons_zero, List.getElem?_cons_succ] at k0 k1 k2
      have hneK := HKQ.out
      have hneB : B ≠ w.heap.size := Blk.apart hR5.1 hQ5 (by decide)
      clear hK K0 hK5 hR5
      apply wp_region_st w.heap.size 36 #[.int .i64 0, .bool false, .slice none 0 0] #[.int .i64 x.pos, .bool x.braced, .slice A4 x.parts.length c4] [eqT _, eqT _, eqT _, eqT _, eqT _, eqT _, eqT _, eqT _, eqT _, eqT _, eqT (.bool bb), eqT (.bool bb), finT _ _ _ _, eqT _] (by kernel_rfl) (by kernel_rfl) rfl
      focus
        refine ⟨?_, ?_⟩
        focus
          unfold opGoal
          rw [if_pos (by kernel_rfl)]
          intro x hb hd K hk
          clear hd
          have l0 := StR.cell hb k0 hneK
          have l1 := StR.cell hb k1 hneK
          have l2 := StR.cell hb k2 hneK
          go_wp2_with fail
          exact hk _ _ rfl trivial (StR.refl _ _ _ _ _)
        rintro _ rfl
        simp only [Act.put, List.setIfInBounds_toArray, List.set_cons_succ, List.set_cons_zero]
        refine ⟨?_, ?_⟩
        focus
          unfold opGoal
          rw [if_pos (by kernel_rfl)]
          intro x hb hd K hk
          clear hd
          go_wp2_with fail
          exact hk _ _ rfl trivial (StR.refl _ _ _ _ _)
        rintro _ rfl
        simp only [Act.put, List.setIfInBounds_toArray, List.set_cons_succ, List.set_cons_zero]
        refine ⟨?_, ?_⟩
        focus
          unfold opGoal
          rw [if_pos (by kernel_rfl)]
          intro x hb hd K hk
          clear hd
          go_wp2_with fail
          exact hk _ _ rfl trivial (StR.refl _ _ _ _ _)
        rintro _ rfl
        simp only [Act.put, List.setIfInBounds_toArray, List.set_cons_succ, List.set_cons_zero]
        refine ⟨?_, ?_⟩
        focus
          unfold opGoal
          rw [if_pos (by kernel_rfl)]
          intro x hb hd K hk
          clear hd
          go_wp2_with fail
          exact hk _ _ rfl trivial (StR.refl _ _ _ _ _)
        rintro _ rfl
        simp only [Act.put, List.setIfInBounds_toArray, List.set_cons_succ, List.set_cons_zero]
        refine ⟨?_, ?_⟩
        focus
          unfold opGoal
          rw [if_pos (by kernel_rfl)]
          intro x hb hd K hk
          clear hd
          go_wp2_with fail
          exact hk _ _ rfl trivial (StR.refl _ _ _ _ _)
        rintro _ rfl
        simp only [Act.put, List.setIfInBounds_toArray, List.set_cons_succ, List.set_cons_zero]
        refine ⟨?_, ?_⟩
        focus
          unfold opGoal
          rw [if_pos (by kernel_rfl)]
          intro x hb hd K hk
          clear hd
          go_wp2_with fail
          exact hk _ _ rfl trivial (StR.refl _ _ _ _ _)
        rintro _ rfl
        simp only [Act.put, List.setIfInBounds_toArray, List.set_cons_succ, List.set_cons_zero]
        refine ⟨?_, ?_⟩
        focus
          unfold opGoal
          rw [if_pos (by kernel_rfl)]
          intro x hb hd K hk
          clear hd
          go_wp2_with fail
          exact hk _ _ rfl trivial (StR.refl _ _ _ _ _)
        rintro _ rfl
        simp only [Act.put, List.setIfInBounds_toArray, List.set_cons_succ, List.set_cons_zero]
        refine ⟨?_, ?_⟩
        focus
          unfold opGoal
          rw [if_pos (by kernel_rfl)]
          intro x hb hd K hk
          clear hd
          have l0 := StR.cell hb r1 hneB
          go_wp2_with fail
          exact hk _ _ rfl trivial (StR.refl _ _ _ _ _)
        rintro _ rfl
        simp only [Act.put, List.setIfInBounds_toArray, List.set_cons_succ, List.set_cons_zero]
        refine ⟨?_, ?_⟩
        focus
          unfold opGoal
          rw [if_pos (by kernel_rfl)]
          intro x hb hd K hk
          clear hd
          go_wp2_with fail
          exact hk _ _ rfl trivial (StR.refl _ _ _ _ _)
        rintro _ rfl
        simp only [Act.put, List.setIfInBounds_toArray, List.set_cons_succ, List.set_cons_zero]
        refine ⟨?_, ?_⟩
        focus
          unfold opGoal
          rw [if_pos (by kernel_rfl)]
          intro x hb hd K hk
          clear hd
          go_wp2_with fail
          exact hk _ _ rfl trivial (StR.refl _ _ _ _ _)
        rintro _ rfl
        simp only [Act.put, List.setIfInBounds_toArray, List.set_cons_succ, List.set_cons_zero]
        refine ⟨?_, ?_⟩
        focus
          unfold opGoal
          rw [if_pos (by kernel_rfl)]
          intro x hb hd K hk
          clear hd
          go_wp2_with fail
          exact hk _ _ rfl trivial (StR.refl _ _ _ _ _)
        rintro _ rfl
        simp only [Act.put, List.setIfInBounds_toArray, List.set_cons_succ, List.set_cons_zero]
        refine ⟨?_, ?_⟩
        focus
          unfold opGoal
          rw [if_pos (by kernel_rfl)]
          intro x hb hd K hk
          clear hd
          go_wp2_with fail
          exact hk _ _ rfl trivial (StR.refl _ _ _ _ _)
        rintro _ rfl
        simp only [Act.put, List.setIfInBounds_toArray, List.set_cons_succ, List.set_cons_zero]
        refine ⟨?_, ?_⟩
        focus
          unfold opGoal
          rw [if_pos (by kernel_rfl)]
          intro x hb hd K hk
          clear hd
          obtain ⟨e0, e1, e2, hI⟩ := hb.has3 hQ5
          have m0 := hI.cell 0
          have m1 := hI.cell 1
          have m2 := hI.cell 2
          have f0 := hI.frozen 0
          have f1 := hI.frozen 1
          have f2 := hI.frozen 2
          have HI := Lib.hid hI
          clear hI
          go_wp2_with fail
          exact hk undef _ trivial (HI.out.set3 _ _ _) (StR.put3 HI.out _ _ _)
        rintro sv -
        simp only [Act.put, List.setIfInBounds_toArray, List.set_cons_succ, List.set_cons_zero]
        refine ⟨?_, ?_⟩
        focus
          unfold opGoal
          rw [if_pos (by kernel_rfl)]
          intro x hb hd K hk
          clear hd
          go_wp2_with fail
          exact hk _ _ rfl trivial (StR.refl _ _ _ _ _)
        rintro _ rfl
        simp only [Act.put, List.setIfInBounds_toArray, List.set_cons_succ, List.set_cons_zero]
        intro xw hbx hf
        have hQx := hf 12 (finT _ _ _ _) sv (by kernel_rfl) (by kernel_rfl)
        unfold finT at hQx
        simp only at hQx
        have HQX := Lib.hid hQx
        have HBX := Lib.hid (show Below w.heap.size w xw from HB5.out.trans (hbx.but.below (Nat.le_refl _) HB5.out.size))
        have HOX := Lib.hid (HO5.out.but hbx.but hQ5 (by decide))
        clear hf hQx hbx hQ5 r1 k0 k1 k2
        go_wp2_with fail
        have t0 := HQX.out.cell 0
        have t1 := HQX.out.cell 1
        have t2 := HQX.out.cell 2
        simp only [List.getElem?_toArray, List.getElem?_cons_zero, List.getElem?_cons_succ] at t0 t1 t2
        refine bodyPost_ret (v := .tuple #[.agg #[.int .i64 x.pos, .bool x.braced, .slice A4 x.parts.length c4], .bool bb]) (by simp [results, Tryd.results24, go_sem, t0, t1, t2]) rfl ?_
        exact ⟨x, _, bb, rfl, HOX.out, HBX.out, HN.out⟩
end Go.Proofs.YtlhpflilpdceiaaDoor
