/- The walks over the making of a store, and over patoisref's equality of variables. Bounds on the lengths. -/
import Derived.Test.YtcnkljbckpkgcaaStoW3
import Derived.Test.YtcnkljbckpkgcaaTextsW
set_option linter.unusedVariables false
set_option linter.unusedSimpArgs false
namespace Go.Proofs.Ytcnkljbckpkgcaa
variable {X : Nat → Prop}
open Go.RowKit Go.Maps Go.Sort

theorem sametxt_v (va vb : Value) (a b : List Txt) (w : World) (ha : TxR w va a) (hb : TxR w vb b) (hla : a.length ≤ 1000000) (hlb : b.length ≤ 1000000) :
    Calls Try.prog 19 #[va, vb] w (Ret w (.bool (decide (a = b)))) := by
  obtain ⟨A, c, rfl, hr, _⟩ := ha
  obtain ⟨B, d, rfl, hs, _⟩ := hb
  exact sameTexts_any A B c d a b w hr hs hla hlb
theorem sameval_any (n1 n2 : Txt) (va vb : Value) (a b : List Txt) (w : World) (ha : TxR w va a) (hb : TxR w vb b) (hla : a.length ≤ 1000000) (hlb : b.length ≤ 1000000) :
    Calls Try.prog 37 #[.agg #[.string ⟨n1.toArray⟩, va], .agg #[.string ⟨n2.toArray⟩, vb]] w (Ret w (.bool (n1 == n2 && decide (a = b)))) := by
  obtain ⟨W1, hW1⟩ : ∃ W1, W1 = (w.alloc (.cells #[.string ⟨n1.toArray⟩, va] 34)).alloc (.cells #[.string ⟨n2.toArray⟩, vb] 34) := ⟨_, rfl⟩
  have hb0 : Below w.heap.size w (w.alloc (.cells #[.string ⟨n1.toArray⟩, va] 34)) := (Below.refl _ _).alloc (Nat.le_refl _) _
  have hb1 : Below w.heap.size w W1 := by rw [hW1]; exact hb0.alloc hb0.size _
  have hq1 : Blk W1 w.heap.size 34 #[.string ⟨n1.toArray⟩, va] := by rw [hW1]; exact (Blk.new w _ _).below ((Below.refl _ _).alloc (Nat.le_refl _) _)
  have hq2 : Blk W1 (w.heap.size + 1) 34 #[.string ⟨n2.toArray⟩, vb] := by
    rw [hW1]
    have := Blk.new (w.alloc (.cells #[.string ⟨n1.toArray⟩, va] 34)) 34 #[.string ⟨n2.toArray⟩, vb]
    rwa [show (w.alloc (.cells #[.string ⟨n1.toArray⟩, va] 34)).heap.size = w.heap.size + 1 by simp] at this
  have HC := Lib.hid (sametxt_v va vb a b W1 (ha.below hb1) (hb.below hb1) hla hlb)
  have HQ1 := Lib.hid hq1
  have HQ2 := Lib.hid hq2
  have p0 := hq1.cell 1
  have p1 := hq2.cell 1
  simp only [List.getElem?_toArray, List.getElem?_cons_succ, List.getElem?_cons_zero] at p0 p1
  have HW := Lib.hid hW1
  have HB1 := Lib.hid hb1
  obtain ⟨A, c, rfl, -⟩ := ha
  obtain ⟨B, d, rfl, -⟩ := hb
  clear hb0 hb1 hq1 hq2 hW1
  generalize decide (a = b) = q at *
  obtain ⟨r, hr⟩ : ∃ r, r = (n1 == n2 && q) := ⟨_, rfl⟩
  rw [← hr]
  have HR := Lib.hid hr
  clear hr
  generalize a.length = la at *
  generalize b.length = lb at *
  go_enter Try.func37, Try.ntmps37
  go_upto_region 1 with (fail)
  rw [← HW.out]
  clear HW
  go_wp2_with fail
  refine HC.out.mono ?_
  rintro e w2 ⟨rfl, hb2⟩
  have q0 := (HQ1.out.below hb2).cell 0
  have q1 := (HQ2.out.below hb2).cell 0
  simp only [List.getElem?_toArray, List.getElem?_cons_succ, List.getElem?_cons_zero] at q0 q1
  have hbz := HB1.out.trans (hb2.mono HB1.out.size)
  clear p0 p1 hb2
  cases hn : (n1 == n2)
  all_goals
    have HN := Lib.hid hn
    go_wp2_with fail
    go_ret
    exact ⟨by rw [HR.out, HN.out]; rfl, hbz⟩
/-- Do two lists of variables say the same? -/
theorem allv_eq {w : World} {M M' : List (Txt × List Txt)} (h : ∀ i (h : i < M.length) (h' : i < M'.length), M[i].1 = M'[i].1 ∧ M[i].2 = M'[i].2) (hl : M.length = M'.length) : M = M' :=
  List.ext_getElem hl fun i h1 h2 => Prod.ext (h i h1 h2).1 (h i h1 h2).2
set_option maxHeartbeats 4000000 in
theorem samevals_any (va vb : Value) (M M' : List (Txt × List Txt)) (w : World) (ha : ValR w va M) (hb : ValR w vb M') (hm : M.length ≤ 1000000) (hm' : M'.length ≤ 1000000) (hl : ∀ p ∈ M, p.2.length ≤ 1000000) (hl' : ∀ p ∈ M', p.2.length ≤ 1000000) :
    Calls Try.prog 26 #[va, vb] w (Ret w (.bool (decide (M = M')))) := by
  obtain ⟨A, c, vs, rfl, hr, hv, _⟩ := ha
  obtain ⟨B, d, us, rfl, hs, hu, _⟩ := hb
  by_cases hne : M.length = M'.length
  · have hq : ((M.length : Int) != (M'.length : Int)) = false := by simp; omega
    obtain ⟨m, hmm⟩ : ∃ m, m = M.length := ⟨_, rfl⟩
    have HM := Lib.hid hmm
    have HM' := Lib.hid (show m = M'.length by rw [hmm, hne])
    rw [← hne, ← hmm] at hq ⊢
    rw [← hmm] at hm
    clear hm'
    have HL := Lib.hid hl
    have HL' := Lib.hid hl'
    have HV := Lib.hid hv
    have HU := Lib.hid hu
    clear hne hmm hl hl' hv hu
    go_enter Try.func26, Try.ntmps26
    go_wp2_with fail
    go_loopw [5] (fun i wr => ∃ k : Nat, k ≤ m ∧ i = .int .i64 k ∧ Below w.heap.size w wr ∧ Hid (M.take k = M'.take k)) (fun i _ => m - (intOf i).toNat)
    case atStart => exact ⟨0, Nat.zero_le _, rfl, Below.refl _ _, Lib.hid (by simp)⟩
    case round =>
      obtain ⟨k, hk, rfl, hbw, H⟩ := hrel
      by_cases hlt : k < m
      · have hk1 : k < M.length := by rw [← HM.out]; exact hlt
        have hk2 : k < M'.length := by rw [← HM'.out]; exact hlt
        have hv1 : k < vs.length := by rw [HV.out.1]; exact hk1
        have hu1 : k < us.length := by rw [HU.out.1]; exact hk2
        obtain ⟨b1, o1, rfl, _, hc1⟩ := (hr.below hbw) k hv1
        obtain ⟨b2, o2, rfl, _, hc2⟩ := (hs.below hbw) k hu1
        have c10 := hc1 0 _ rfl
        have c11 := hc1 1 _ rfl
        have c20 := hc2 0 _ rfl
        have c21 := hc2 1 _ rfl
        have hx := HV.out.2 k hv1 hk1
        have hy := HU.out.2 k hu1 hk2
        rw [hx.1] at c10
        rw [hy.1] at c20
        obtain ⟨v1, hv1'⟩ : ∃ v1, v1 = vs[k].2 := ⟨_, rfl⟩
        obtain ⟨u1, hu1'⟩ : ∃ u1, u1 = us[k].2 := ⟨_, rfl⟩
        rw [← hv1'] at c11 hx
        rw [← hu1'] at c21 hy
        obtain ⟨p, hp⟩ : ∃ p, p = M[k] := ⟨_, rfl⟩
        obtain ⟨q, hq'⟩ : ∃ q, q = M'[k] := ⟨_, rfl⟩
        rw [← hp] at c10 hx
        rw [← hq'] at c20 hy
        simp only [Nat.add_zero] at c10 c20
        have HT := Lib.hid (show M.take (k + 1) = M.take k ++ [p] by rw [List.take_succ_eq_append_getElem hk1, hp])
        have HT' := Lib.hid (show M'.take (k + 1) = M'.take k ++ [q] by rw [List.take_succ_eq_append_getElem hk2, hq'])
        have HNE := Lib.hid (show p ≠ q → M ≠ M' from fun h e => h (by rw [hp, hq']; subst e; rfl))
        have HC := Lib.hid (fun (W : World) (hW : Below wr.heap.size wr W) => sameval_any p.1 q.1 v1 u1 p.2 q.2 W ((hx.2.below hbw).below hW) ((hy.2.below hbw).below hW) (HL.out p (by rw [hp]; exact List.getElem_mem _)) (HL'.out q (by rw [hq']; exact List.getElem_mem _)))
        have HPQ := Lib.hid (show (p.1 == q.1 && decide (p.2 = q.2)) = decide (p = q) by
          rw [Bool.eq_iff_iff, Bool.and_eq_true, beq_iff_eq, decide_eq_true_eq, decide_eq_true_eq]
          exact ⟨fun h => Prod.ext h.1 h.2, fun h => by rw [h]; exact ⟨rfl, rfl⟩⟩)
        rw [HPQ.out] at HC
        have l0 := Later.cell c10
        have l1 := Later.cell c11
        have l2 := Later.cell c20
        have l3 := Later.cell c21
        clear hc1 hc2 c10 c11 c20 c21 hv1 hu1 hv1' hu1' hp hq' hx hy hk1 hk2
        obtain ⟨bb, hbb⟩ : ∃ bb, decide (p = q) = bb := ⟨_, rfl⟩
        rw [hbb] at HC
        have HBB := Lib.hid hbb
        clear hbb
        go_upto_region 6 with (fail)
        refine wp_region_eq (by kernel_rfl) (by kernel_rfl) ?_
        apply EqGo.run
        focus
          kernel_rfl
        focus
          intro x K hK
          go_wp2_with fail
          first | exact hK x (Below.refl _ _) | exact Below.refl _ _
        simp only [Act.put, List.setIfInBounds_toArray, List.set_cons_succ, List.set_cons_zero]
        apply EqGo.run
        focus
          kernel_rfl
        focus
          intro x K hK
          go_wp2_with fail
          first | exact hK x (Below.refl _ _) | exact Below.refl _ _
        simp only [Act.put, List.setIfInBounds_toArray, List.set_cons_succ, List.set_cons_zero]
        apply EqGo.run
        focus
          kernel_rfl
        focus
          intro x K hK
          go_wp2_with fail
          first | exact hK x (Below.refl _ _) | exact Below.refl _ _
        simp only [Act.put, List.setIfInBounds_toArray, List.set_cons_succ, List.set_cons_zero]
        apply EqGo.run
        focus
          kernel_rfl
        focus
          intro x K hK
          go_wp2_with fail
          first | exact hK x (Below.refl _ _) | exact Below.refl _ _
        simp only [Act.put, List.setIfInBounds_toArray, List.set_cons_succ, List.set_cons_zero]
        apply EqGo.run
        focus
          kernel_rfl
        focus
          intro x K hK
          go_wp2_with fail
          first | exact hK x (Below.refl _ _) | exact Below.refl _ _
        simp only [Act.put, List.setIfInBounds_toArray, List.set_cons_succ, List.set_cons_zero]
        apply EqGo.run
        focus
          kernel_rfl
        focus
          intro x K hK
          go_wp2_with fail
          first | exact hK x (Below.refl _ _) | exact Below.refl _ _
        simp only [Act.put, List.setIfInBounds_toArray, List.set_cons_succ, List.set_cons_zero]
        apply EqGo.run
        focus
          kernel_rfl
        focus
          intro x K hK
          go_wp2_with fail
          first | exact hK x (Below.refl _ _) | exact Below.refl _ _
        simp only [Act.put, List.setIfInBounds_toArray, List.set_cons_succ, List.set_cons_zero]
        apply EqGo.run
        focus
          kernel_rfl
        focus
          intro x K hK
          go_wp2_with fail
          first | exact hK x (Below.refl _ _) | exact Below.refl _ _
        simp only [Act.put, List.setIfInBounds_toArray, List.set_cons_succ, List.set_cons_zero]
        apply EqGo.run
        focus
          kernel_rfl
        focus
          intro x K hK
          go_wp2_with fail
          refine (Hid.out HC x.val x.below).mono ?_
          rintro e x' ⟨rfl, hb'⟩
          exact hK ⟨x', x.below.trans (hb'.mono x.below.size)⟩ hb'
        simp only [Act.put, List.setIfInBounds_toArray, List.set_cons_succ, List.set_cons_zero]
        apply EqGo.run
        focus
          kernel_rfl
        focus
          intro x K hK
          go_wp2_with fail
          first | exact hK x (Below.refl _ _) | exact Below.refl _ _
        simp only [Act.put, List.setIfInBounds_toArray, List.set_cons_succ, List.set_cons_zero]
        intro x
        have hbx := hbw.trans (x.below.mono hbw.size)
        clear l0 l1 l2 l3 HC
        generalize x.val = wy at *
        clear x hbw
        cases bb
        · have HF := Lib.hid (show decide (M = M') = false from decide_eq_false (HNE.out (of_decide_eq_false HBB.out)))
          clear H
          go_wp2_with fail
          go_ret
          exact ⟨by rw [HF.out]; rfl, hbx⟩
        · have HE := Lib.hid (show M.take (k + 1) = M'.take (k + 1) by rw [HT.out, HT'.out, H.out, of_decide_eq_true HBB.out])
          clear H
          go_wp2_with fail
          go_roundw
          case rel => exact ⟨k + 1, by omega, by go_num, hbx, HE⟩
          case measure => simp [intOf]; omega
      · have HE := Lib.hid (show decide (M = M') = true by
          rw [decide_eq_true_eq]
          have h := H.out
          rwa [List.take_of_length_le (by rw [← HM.out]; omega), List.take_of_length_le (by rw [← HM'.out]; omega)] at h)
        clear H
        go_wp2_with fail
        go_ret
        exact ⟨by rw [HE.out]; rfl, hbw⟩
  · have hq : ((M.length : Int) != (M'.length : Int)) = true := by simp; omega
    have HE := Lib.hid (show decide (M = M') = false from decide_eq_false fun h => hne (by rw [h]))
    clear hne
    go_enter Try.func26, Try.ntmps26
    go_wp2_with fail
    go_ret
    exact ⟨by rw [HE.out]; rfl, Below.refl _ _⟩
/-- A store that is new. -/
def NewRet (X : Nat → Prop) (N : Nat) (x : Sto) (w : World) (e : Ending) (w' : World) : Prop :=
  ∃ st vb fb, e = .returned (.pointer (some ⟨st, 0, none⟩)) ∧ StI X w' st vb fb N x [] ∧ w.heap.size ≤ st ∧ w.heap.size ≤ vb ∧ w.heap.size ≤ fb ∧ Below w.heap.size w w'
theorem newS_snoc (V : List (Txt × List Txt)) (p : Txt × List Txt) : newS (V ++ [p]) = setS (newS V) p.1 p.2 := by
  unfold newS
  rw [List.foldl_append]
  rfl
theorem alloc_sz' (w : World) (o : Obj) : (w.alloc o).heap.size = w.heap.size + 1 := by simp
set_option maxRecDepth 100000 in
set_option maxHeartbeats 4000000 in
theorem new_any2 (v : Value) (V : List (Txt × List Txt)) (w : World) (hv : ValR w v V) (hm : V.length ≤ 100000) (hs : ∀ p ∈ V, p.1.length ≤ maxLen ∧ p.2.length ≤ 8796093022208) (hX : ∀ b, X b → b < w.heap.size) :
    Calls Try.prog 7 #[v] w (NewRet X V.length (newS V) w) := by
  obtain ⟨w1, hw1⟩ : ∃ w1, w1 = ((w.alloc (.map #[] 0)).alloc (.map #[] 0)).alloc (.cells #[.map (some w.heap.size), .slice none 0 0, .map (some (w.heap.size + 1))] 51) := ⟨_, rfl⟩
  have hba : Below w.heap.size w (w.alloc (.map #[] 0)) := (Below.refl _ _).alloc (Nat.le_refl _) _
  have hbb := hba.alloc hba.size (.map #[] 0)
  have hbc := hbb.alloc hbb.size (.cells #[.map (some w.heap.size), .slice none 0 0, .map (some (w.heap.size + 1))] 51)
  obtain ⟨vb, hvb⟩ : ∃ vb, vb = w.heap.size := ⟨_, rfl⟩
  obtain ⟨fb, hfb⟩ : ∃ fb, fb = w.heap.size + 1 := ⟨_, rfl⟩
  obtain ⟨st, hst⟩ : ∃ st, st = w.heap.size + 1 + 1 := ⟨_, rfl⟩
  have hQ : Blk w1 st 51 #[.map (some vb), .slice none 0 0, .map (some fb)] := by
    have := Blk.new ((w.alloc (.map #[] 0)).alloc (.map #[] 0)) 51 #[.map (some w.heap.size), .slice none 0 0, .map (some (w.heap.size + 1))]
    rw [alloc_sz', alloc_sz', ← hst] at this
    rw [hw1, hvb, hfb]
    exact this
  have hV : MapR (OT X) w1 vb 0 (fun _ => none) := by
    have h0 := MapR.made (OT X) w
    rw [← hvb] at h0
    rw [hw1]
    exact h0.below ((Below.refl _ _).alloc (Nat.le_refl _) _ |>.alloc (by simp) _) fun v x hx => OT.below hx ((Below.refl _ _).alloc (Nat.le_refl _) _ |>.alloc (by simp) _)
  have hF : MapR (ON X) w1 fb 0 (fun _ => none) := by
    have h0 := MapR.made (ON X) (w.alloc (.map #[] 0))
    rw [alloc_sz', ← hfb] at h0
    rw [hw1]
    exact h0.below ((Below.refl _ _).alloc (Nat.le_refl _) _) fun v x hx => ON.below hx ((Below.refl _ _).alloc (Nat.le_refl _) _)
  have HI1 := Lib.hid (show StI X w1 st vb fb 0 (newS []) [] from ⟨⟨_, hQ, OT.nil w1⟩, hV.congr fun s => rfl, hF.congr fun s => rfl, by omega, List.Pairwise.nil, List.Pairwise.nil, fun b hb => Nat.lt_of_lt_of_le (hX b hb) (by rw [hw1]; exact hbc.size)⟩)
  have HB1 := Lib.hid (show Below w.heap.size w w1 by rw [hw1]; exact hbc)
  have HVB := Lib.hid hvb
  have HFB := Lib.hid hfb
  have HST := Lib.hid hst
  have HW := Lib.hid hw1
  have HSS := Lib.hid hs
  have HV := Lib.hid hv
  have hmk1 := fun W => run_makeMap (P := Try.prog) 44 W
  have hmk2 := fun W => run_makeMap (P := Try.prog) 47 W
  obtain ⟨A, c, vs, rfl, hr, ha, -⟩ := hv
  obtain ⟨m, hmm⟩ : ∃ m, m = V.length := ⟨_, rfl⟩
  rw [← hmm] at hm ⊢
  have HM := Lib.hid hmm
  have HA := Lib.hid ha
  clear hX hw1 hba hbb hbc hvb hfb hst hQ hV hF hs ha hmm
  go_enter Try.func7, Try.ntmps7
  go_upto_region 3 with (fail)
  rw [← HW.out, ← HST.out]
  clear hmk1 hmk2 HW
  go_loopw [14] (fun i wr => ∃ k : Nat, k ≤ m ∧ i = .int .i64 k ∧ Hid (StI X wr st vb fb k (newS (V.take k)) []) ∧ Below w.heap.size w wr) (fun i _ => m - (intOf i).toNat)
  case atStart => exact ⟨0, Nat.zero_le _, rfl, Lib.hid (by rw [List.take_zero]; exact HI1.out), HB1.out⟩
  case round =>
    obtain ⟨k, hk, rfl, HI, hbr⟩ := hrel
    by_cases hlt : k < m
    · have hkV : k < V.length := by rw [← HM.out]; exact hlt
      have hkv : k < vs.length := by rw [HA.out.1]; exact hkV
      obtain ⟨b, o, rfl, _, hc⟩ := (hr.below hbr) k hkv
      have c0 := hc 0 _ rfl
      have c1 := hc 1 _ rfl
      have hx := HA.out.2 k hkv hkV
      rw [hx.1] at c0
      obtain ⟨u, hu⟩ : ∃ u, u = vs[k].2 := ⟨_, rfl⟩
      rw [← hu] at c1 hx
      obtain ⟨p, hp⟩ : ∃ p, p = V[k] := ⟨_, rfl⟩
      rw [← hp] at c0 hx
      simp only [Nat.add_zero] at c0
      have HT := Lib.hid (show newS (V.take (k + 1)) = setS (newS (V.take k)) p.1 p.2 by rw [List.take_succ_eq_append_getElem hkV, ← hp, newS_snoc])
      have hsm := HSS.out p (by rw [hp]; exact List.getElem_mem _)
      have HC := Lib.hid (fun (W : World) (hW : Below wr.heap.size wr W) => set_any2 st vb fb k (newS (V.take k)) [] p.1 u p.2 W (HI.out.below hW) (by omega) hsm.1 ((hx.2.below hbr).below hW) hsm.2)
      rw [← HT.out] at HC
      obtain ⟨nm, l⟩ := p
      simp only at c0 HC
      have hpl := hx.2
      obtain ⟨Au, cu, rfl, -⟩ := hpl
      simp only at HC c1
      generalize l.length = nl at *
      clear hc hu hp hx hkV hkv hsm HT
      obtain ⟨wx, hwx⟩ : ∃ wx, wx = wr.alloc (.cells #[.string ⟨nm.toArray⟩, .slice Au nl cu] 34) := ⟨_, rfl⟩
      have hbx : Below wr.heap.size wr wx := by rw [hwx]; exact (Below.refl _ _).alloc (Nat.le_refl _) _
      have hBX : Blk wx wr.heap.size 34 #[.string ⟨nm.toArray⟩, .slice Au nl cu] := by rw [hwx]; exact Blk.new wr _ _
      have z0 := hBX.cell 0
      have z1 := hBX.cell 1
      simp only [List.getElem?_toArray, List.getElem?_cons_zero, List.getElem?_cons_succ] at z0 z1
      have HWX := Lib.hid hwx
      have HBX := Lib.hid hbx
      have HBR := Lib.hid hbr
      clear hwx hBX hbx hbr
      go_upto_region 5 with (fail)
      rw [← HWX.out]
      clear HWX c0 c1
      apply wp_region_relA 7 [eqT _, eqT _, eqT _, eqT _, eqT _, eqT _, eqT _] (by kernel_rfl) (by kernel_rfl) (by kernel_rfl) rfl
      focus
        refine ⟨?_, ?_⟩
        focus
          unfold opGoal
          rw [if_pos (by kernel_rfl)]
          intro x hb hd K hk
          clear hd
          go_wp2_with fail
          exact hk _ _ rfl trivial (Below.refl _ _)
        rintro _ rfl
        simp only [Act.put, List.setIfInBounds_toArray, List.set_cons_succ, List.set_cons_zero]
        refine ⟨?_, ?_⟩
        focus
          unfold opGoal
          rw [if_pos (by kernel_rfl)]
          intro x hb hd K hk
          clear hd
          go_wp2_with fail
          exact hk _ _ rfl trivial (Below.refl _ _)
        rintro _ rfl
        simp only [Act.put, List.setIfInBounds_toArray, List.set_cons_succ, List.set_cons_zero]
        refine ⟨?_, ?_⟩
        focus
          unfold opGoal
          rw [if_pos (by kernel_rfl)]
          intro x hb hd K hk
          clear hd
          go_wp2_with fail
          exact hk _ _ rfl trivial (Below.refl _ _)
        rintro _ rfl
        simp only [Act.put, List.setIfInBounds_toArray, List.set_cons_succ, List.set_cons_zero]
        refine ⟨?_, ?_⟩
        focus
          unfold opGoal
          rw [if_pos (by kernel_rfl)]
          intro x hb hd K hk
          clear hd
          go_wp2_with fail
          exact hk _ _ rfl trivial (Below.refl _ _)
        rintro _ rfl
        simp only [Act.put, List.setIfInBounds_toArray, List.set_cons_succ, List.set_cons_zero]
        refine ⟨?_, ?_⟩
        focus
          unfold opGoal
          rw [if_pos (by kernel_rfl)]
          intro x hb hd K hk
          clear hd
          have l0 := cell_keep hb z0
          go_wp2_with fail
          exact hk _ _ rfl trivial (Below.refl _ _)
        rintro _ rfl
        simp only [Act.put, List.setIfInBounds_toArray, List.set_cons_succ, List.set_cons_zero]
        refine ⟨?_, ?_⟩
        focus
          unfold opGoal
          rw [if_pos (by kernel_rfl)]
          intro x hb hd K hk
          clear hd
          go_wp2_with fail
          exact hk _ _ rfl trivial (Below.refl _ _)
        rintro _ rfl
        simp only [Act.put, List.setIfInBounds_toArray, List.set_cons_succ, List.set_cons_zero]
        refine ⟨?_, ?_⟩
        focus
          unfold opGoal
          rw [if_pos (by kernel_rfl)]
          intro x hb hd K hk
          clear hd
          have l0 := cell_keep hb z1
          go_wp2_with fail
          exact hk _ _ rfl trivial (Below.refl _ _)
        rintro _ rfl
        simp only [Act.put, List.setIfInBounds_toArray, List.set_cons_succ, List.set_cons_zero]
        intro y hby hf
        clear hf
        simp only [List.drop_succ_cons, List.drop_zero]
        have HBY := Lib.hid (HBX.out.trans (hby.mono HBX.out.size))
        have HCY := Lib.hid (HC.out y HBY.out)
        clear hby HC z0 z1
        go_wp2_with fail
        refine HCY.out.mono ?_
        rintro e w9 ⟨rfl, hI9, hb9⟩
        have HI9 := Lib.hid hI9
        have HB9 := Lib.hid ((HBR.out.trans (HBY.out.mono HBR.out.size)).trans (hb9.below (fun k hk => by
          have h1 := HVB.out
          have h2 := HFB.out
          have h3 := HST.out
          simp only [List.mem_cons, List.not_mem_nil, or_false] at hk
          omega) (HBR.out.trans (HBY.out.mono HBR.out.size)).size))
        clear hI9 hb9 HCY
        go_wp2_with fail
        go_roundw
        case rel => exact ⟨k + 1, by omega, by go_num, HI9, HB9.out⟩
        case measure => simp [intOf]; omega
    · obtain rfl : k = m := by omega
      have HF := Lib.hid (show StI X wr st vb fb k (newS V) [] by
        have := HI.out
        rwa [List.take_of_length_le (by rw [← HM.out]; exact Nat.le_refl _)] at this)
      clear HI
      go_wp2_with fail
      go_ret
      exact ⟨st, vb, fb, rfl, HF.out, by rw [HST.out]; omega, by rw [HVB.out]; exact Nat.le_refl _, by rw [HFB.out]; omega, hbr⟩
theorem new_any (v : Value) (V : List (Txt × List Txt)) (w : World) (hv : ValR w v V) (hm : V.length ≤ 100000) (hs : ∀ p ∈ V, p.1.length ≤ maxLen ∧ p.2.length ≤ 1000000) (hX : ∀ b, X b → b < w.heap.size) :
    Calls Try.prog 7 #[v] w (NewRet X V.length (newS V) w) :=
  new_any2 v V w hv hm (fun p hp => ⟨(hs p hp).1, Nat.le_trans (hs p hp).2 (by decide)⟩) hX
end Go.Proofs.Ytcnkljbckpkgcaa
