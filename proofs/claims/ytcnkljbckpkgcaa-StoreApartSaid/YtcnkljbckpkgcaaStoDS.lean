/- The walk over same: a store and the document's, both x, say the same. Bounds on the lengths. -/
import Derived.Test.YtcnkljbckpkgcaaStoDW4
import Derived.Test.YtcnkljbckpkgcaaStoDW3
import Derived.Test.YtcnkljbckpkgcaaStoO
import Derived.Test.YtcnkljbckpkgcaaSameN
set_option linter.unusedVariables false
set_option linter.unusedSimpArgs false
namespace Go.Proofs.Ytcnkljbckpkgcaa
open Go.RowKit Go.Maps Go.Sort
variable {X : Nat → Prop}

def vaT (M : List (Txt × List Txt)) : TT := ⟨fun v => ∃ A c, v = .slice A M.length c, ⟨_, none, 0, rfl⟩, fun v x => ValR x v M, fun _ _ _ h hb => h.below hb⟩
/-- All that is small in a store. -/
structure SmA (x : Sto) (F : List (Txt × List Nd)) (N : Nat) : Prop where
  s : SmS x
  f : SmF F
  n : N ≤ 1000000
  v : x.vars.length ≤ 100000
  g : F.length ≤ 100000
  k : ∀ p ∈ x.vars, p.1.length ≤ maxLen
theorem sm_get7 {x : Sto} (h : SmS x) (n : Txt) : (getS x n).1.length ≤ 1000000 := by
  unfold getS
  split
  · exact h.args
  · cases hl : lookA x.vars n with
    | none => exact Nat.zero_le _
    | some l => exact h.vars n l hl
theorem smf_get {F : List (Txt × List Nd)} (h : SmF F) (n : Txt) : (getF F n).1.length ≤ 4000000 := by
  unfold getF
  cases hl : lookA F n with
  | none => exact Nat.zero_le _
  | some l => exact Nat.le_trans (h n l hl) (by decide)
set_option maxRecDepth 100000 in
set_option maxHeartbeats 8000000 in
theorem same7_any (st vb fb xb N : Nat) (sx : Sto) (F : List (Txt × List Nd)) (n : Txt) (w : World) (h : StI X w st vb fb N sx F) (hd : DocI X w xb sx F) (hs : SmA sx F N) (hn : n.length ≤ maxLen) :
    Calls Try.prog 9 #[.pointer (some ⟨st, 0, none⟩), .pointer (some ⟨xb, 0, none⟩), .string ⟨n.toArray⟩] w (Ret w (.bool true)) := by
  have HI := Lib.hid h
  have HD := Lib.hid hd
  have HS := Lib.hid hs
  have HG := Lib.hid (get_any st vb fb N sx F n w h hs.s hn)
  have HNN := Lib.hid hn
  clear h hd hs
  go_enter Try.func9, Try.ntmps9
  go_wp2_with fail
  refine HG.out.mono ?_
  rintro e w1 ⟨v1, rfl, h1, hb1⟩
  have H1 := Lib.hid h1
  obtain ⟨A1, c1, rfl, -⟩ := h1
  have HX := Lib.hid (dget_any xb sx F n w1 (HD.out.below hb1))
  have HB1 := Lib.hid hb1
  clear hb1 HG
  go_wp2_with fail
  refine HX.out.mono ?_
  rintro e w2 ⟨v2, rfl, h2, hb2⟩
  have H2 := Lib.hid h2
  obtain ⟨A2, c2, rfl⟩ := h2.form
  have HB2 := Lib.hid (HB1.out.trans (hb2.mono HB1.out.size))
  have H12 := Lib.hid (H1.out.below hb2)
  have HF := Lib.hid (fun_any st vb fb N sx F n w2 (HI.out.below HB2.out) HS.out.f HNN.out)
  clear hb2 HX h2
  go_wp2_with fail
  refine HF.out.mono ?_
  rintro e w3 ⟨v3, rfl, h3, hb3⟩
  have H3 := Lib.hid h3
  obtain ⟨A3, c3, rfl, -⟩ := h3
  have HB3 := Lib.hid (HB2.out.trans (hb3.mono HB2.out.size))
  have H13 := Lib.hid (H12.out.below hb3)
  have H23 := Lib.hid (H2.out.below hb3)
  have HE := Lib.hid (dfun_any xb sx F n w3 (HD.out.below HB3.out))
  clear hb3 HF H1 H12 H2
  go_wp2_with fail
  refine HE.out.mono ?_
  rintro e w4 ⟨v4, rfl, h4, hb4⟩
  have H4 := Lib.hid h4
  obtain ⟨A4, c4, rfl⟩ := h4.form
  have HB4 := Lib.hid (HB3.out.trans (hb4.mono HB3.out.size))
  have H14 := Lib.hid (H13.out.below hb4)
  have H24 := Lib.hid (H23.out.below hb4)
  have H34 := Lib.hid (H3.out.below hb4)
  clear hb4 HE H13 H23 H3 h4
  go_upto_region 5 with (fail)
  have hII := HI.out.below HB4.out
  have C3 := Lib.hid (fun (W : World) (hW : Below w4.heap.size w4 W) => args_any st vb fb N sx F W (hII.below hW) HS.out.s.args)
  have C5 := Lib.hid (fun (W : World) (hW : Below w4.heap.size w4 W) => vars_any st vb fb N sx F W (hII.below hW) HS.out.s HS.out.n (Nat.le_trans HS.out.v (by decide)) HS.out.k)
  obtain ⟨vv, va, vf, hq, hqv, hqa, hqf⟩ := (HD.out.below HB4.out).blk
  have d0 := hq.cell 0
  have d1 := hq.cell 1
  simp only [List.getElem?_toArray, List.getElem?_cons_succ, List.getElem?_cons_zero] at d0 d1
  have C4 := Lib.hid (fun (W : World) (hW : Below w4.heap.size w4 W) (v : Value) (hv : OwnT W w4.heap.size v sx.args) => sametxt_v v va sx.args sx.args W hv.rd (hqa.rd.below hW) HS.out.s.args HS.out.s.args)
  rw [decide_eq_true rfl] at C4
  have hvl : ∀ p ∈ sx.vars, p.2.length ≤ 1000000 := fun p hp => HS.out.s.vars p.1 p.2 (look_of_mem hII.sv hp)
  have hqr : ValR w4 vv sx.vars := let ⟨A, c, vs, h1, h2, h3, h4⟩ := hqv.rd; ⟨A, c, vs, h1, h2, ⟨h3.1, fun i a b => ⟨(h3.2 i a b).1, (h3.2 i a b).2.rd⟩⟩, h4⟩
  have C6 := Lib.hid (fun (W : World) (hW : Below w4.heap.size w4 W) (v : Value) (hv : ValR W v sx.vars) => samevals_any v vv sx.vars sx.vars W hv (hqr.below hW) (Nat.le_trans HS.out.v (by decide)) (Nat.le_trans HS.out.v (by decide)) hvl hvl)
  rw [decide_eq_true rfl] at C6
  obtain ⟨AV, cV, rfl⟩ := hqv.form
  obtain ⟨AA, cA, rfl⟩ := hqa.form
  clear hII hq hqv hqa hqf hvl hqr
  have C1 := Lib.hid (fun (W : World) (hW : Below w4.heap.size w4 W) => sametxt_v _ _ (getS sx n).1 (getS sx n).1 W (H14.out.rd.below hW) (H24.out.rd.below hW) (sm_get7 HS.out.s n) (sm_get7 HS.out.s n))
  rw [decide_eq_true rfl] at C1
  have C2 := Lib.hid (fun (W : World) (hW : Below w4.heap.size w4 W) => samenodes_v _ _ (getF F n).1 (getF F n).1 W (H34.out.rd.below hW) (H4.out.rd.below hW) (smf_get HS.out.f n) (smf_get HS.out.f n))
  rw [(sameL_iff _ _).2 rfl] at C2
  apply wp_region_rel [eqT _, eqT _, eqT _, eqT _, eqT _, eqT _, eqT _, eqT _, eqT _, eqT _, eqT _, eqT _, eqT _, eqT _, eqT _, eqT _, eqT _, eqT _, eqT _, eqT _, eqT _, eqT _, eqT _, eqT _, txT w4.heap.size sx.args, eqT _, eqT _, eqT _, eqT _, eqT _, eqT _, eqT _, eqT _, eqT _, eqT _, eqT _, vaT sx.vars, eqT _, eqT _, eqT _, eqT _, eqT _, eqT _, eqT _] (by kernel_rfl) (by kernel_rfl) rfl
  focus
    refine ⟨?_, ?_⟩
    focus
      unfold opGoal
      rw [if_pos (by kernel_rfl)]
      intro x hb hd K hk
      clear hd
      go_wp2_with fail
      exact hk _ _ rfl trivial (Below.refl _ _)
    rintro _ rfl
    simp only [Act.put, List.setIfInBounds_toArray, List.set_cons_succ, List.set_cons_zero]
    refine ⟨?_, ?_⟩
    focus
      unfold opGoal
      rw [if_pos (by kernel_rfl)]
      intro x hb hd K hk
      clear hd
      go_wp2_with fail
      exact hk _ _ rfl trivial (Below.refl _ _)
    rintro _ rfl
    simp only [Act.put, List.setIfInBounds_toArray, List.set_cons_succ, List.set_cons_zero]
    refine ⟨?_, ?_⟩
    focus
      unfold opGoal
      rw [if_pos (by kernel_rfl)]
      intro x hb hd K hk
      clear hd
      go_wp2_with fail
      exact hk _ _ rfl trivial (Below.refl _ _)
    rintro _ rfl
    simp only [Act.put, List.setIfInBounds_toArray, List.set_cons_succ, List.set_cons_zero]
    refine ⟨?_, ?_⟩
    focus
      unfold opGoal
      rw [if_pos (by kernel_rfl)]
      intro x hb hd K hk
      clear hd
      go_wp2_with fail
      exact hk _ _ rfl trivial (Below.refl _ _)
    rintro _ rfl
    simp only [Act.put, List.setIfInBounds_toArray, List.set_cons_succ, List.set_cons_zero]
    refine ⟨?_, ?_⟩
    focus
      unfold opGoal
      rw [if_pos (by kernel_rfl)]
      intro x hb hd K hk
      clear hd
      go_wp2_with fail
      exact hk _ _ rfl trivial (Below.refl _ _)
    rintro _ rfl
    simp only [Act.put, List.setIfInBounds_toArray, List.set_cons_succ, List.set_cons_zero]
    refine ⟨?_, ?_⟩
    focus
      unfold opGoal
      rw [if_pos (by kernel_rfl)]
      intro x hb hd K hk
      clear hd
      go_wp2_with fail
      exact hk _ _ rfl trivial (Below.refl _ _)
    rintro _ rfl
    simp only [Act.put, List.setIfInBounds_toArray, List.set_cons_succ, List.set_cons_zero]
    refine ⟨?_, ?_⟩
    focus
      unfold opGoal
      rw [if_pos (by kernel_rfl)]
      intro x hb hd K hk
      clear hd
      go_wp2_with fail
      refine (C1.out x (by assumption)).mono ?_
      rintro e x' ⟨rfl, hb'⟩
      exact hk _ _ rfl trivial hb'
    rintro _ rfl
    simp only [Act.put, List.setIfInBounds_toArray, List.set_cons_succ, List.set_cons_zero]
    refine ⟨?_, ?_⟩
    focus
      unfold opGoal
      rw [if_pos (by kernel_rfl)]
      intro x hb hd K hk
      clear hd
      go_wp2_with fail
      exact hk _ _ rfl trivial (Below.refl _ _)
    rintro _ rfl
    simp only [Act.put, List.setIfInBounds_toArray, List.set_cons_succ, List.set_cons_zero]
    refine ⟨?_, ?_⟩
    focus
      unfold opGoal
      rw [if_pos (by kernel_rfl)]
      intro x hb hd K hk
      clear hd
      go_wp2_with fail
      exact hk _ _ rfl trivial (Below.refl _ _)
    rintro _ rfl
    simp only [Act.put, List.setIfInBounds_toArray, List.set_cons_succ, List.set_cons_zero]
    refine ⟨?_, ?_⟩
    focus
      unfold opGoal
      rw [if_pos (by kernel_rfl)]
      intro x hb hd K hk
      clear hd
      go_wp2_with fail
      exact hk _ _ rfl trivial (Below.refl _ _)
    rintro _ rfl
    simp only [Act.put, List.setIfInBounds_toArray, List.set_cons_succ, List.set_cons_zero]
    refine ⟨?_, ?_⟩
    focus
      unfold opGoal
      rw [if_pos (by kernel_rfl)]
      intro x hb hd K hk
      clear hd
      go_wp2_with fail
      exact hk _ _ rfl trivial (Below.refl _ _)
    rintro _ rfl
    simp only [Act.put, List.setIfInBounds_toArray, List.set_cons_succ, List.set_cons_zero]
    refine ⟨?_, ?_⟩
    focus
      unfold opGoal
      rw [if_pos (by kernel_rfl)]
      intro x hb hd K hk
      clear hd
      go_wp2_with fail
      exact hk _ _ rfl trivial (Below.refl _ _)
    rintro _ rfl
    simp only [Act.put, List.setIfInBounds_toArray, List.set_cons_succ, List.set_cons_zero]
    refine ⟨?_, ?_⟩
    focus
      unfold opGoal
      rw [if_pos (by kernel_rfl)]
      intro x hb hd K hk
      clear hd
      go_wp2_with fail
      exact hk _ _ rfl trivial (Below.refl _ _)
    rintro _ rfl
    simp only [Act.put, List.setIfInBounds_toArray, List.set_cons_succ, List.set_cons_zero]
    refine ⟨?_, ?_⟩
    focus
      unfold opGoal
      rw [if_pos (by kernel_rfl)]
      intro x hb hd K hk
      clear hd
      go_wp2_with fail
      exact hk _ _ rfl trivial (Below.refl _ _)
    rintro _ rfl
    simp only [Act.put, List.setIfInBounds_toArray, List.set_cons_succ, List.set_cons_zero]
    refine ⟨?_, ?_⟩
    focus
      unfold opGoal
      rw [if_pos (by kernel_rfl)]
      intro x hb hd K hk
      clear hd
      go_wp2_with fail
      exact hk _ _ rfl trivial (Below.refl _ _)
    rintro _ rfl
    simp only [Act.put, List.setIfInBounds_toArray, List.set_cons_succ, List.set_cons_zero]
    refine ⟨?_, ?_⟩
    focus
      unfold opGoal
      rw [if_pos (by kernel_rfl)]
      intro x hb hd K hk
      clear hd
      go_wp2_with fail
      exact hk _ _ rfl trivial (Below.refl _ _)
    rintro _ rfl
    simp only [Act.put, List.setIfInBounds_toArray, List.set_cons_succ, List.set_cons_zero]
    refine ⟨?_, ?_⟩
    focus
      unfold opGoal
      rw [if_pos (by kernel_rfl)]
      intro x hb hd K hk
      clear hd
      go_wp2_with fail
      exact hk _ _ rfl trivial (Below.refl _ _)
    rintro _ rfl
    simp only [Act.put, List.setIfInBounds_toArray, List.set_cons_succ, List.set_cons_zero]
    refine ⟨?_, ?_⟩
    focus
      unfold opGoal
      rw [if_pos (by kernel_rfl)]
      intro x hb hd K hk
      clear hd
      go_wp2_with fail
      refine (C2.out x (by assumption)).mono ?_
      rintro e x' ⟨rfl, hb'⟩
      exact hk _ _ rfl trivial hb'
    rintro _ rfl
    simp only [Act.put, List.setIfInBounds_toArray, List.set_cons_succ, List.set_cons_zero]
    refine ⟨?_, ?_⟩
    focus
      unfold opGoal
      rw [if_pos (by kernel_rfl)]
      intro x hb hd K hk
      clear hd
      go_wp2_with fail
      exact hk _ _ rfl trivial (Below.refl _ _)
    rintro _ rfl
    simp only [Act.put, List.setIfInBounds_toArray, List.set_cons_succ, List.set_cons_zero]
    refine ⟨?_, ?_⟩
    focus
      unfold opGoal
      rw [if_pos (by kernel_rfl)]
      intro x hb hd K hk
      clear hd
      go_wp2_with fail
      exact hk _ _ rfl trivial (Below.refl _ _)
    rintro _ rfl
    simp only [Act.put, List.setIfInBounds_toArray, List.set_cons_succ, List.set_cons_zero]
    refine ⟨?_, ?_⟩
    focus
      unfold opGoal
      rw [if_pos (by kernel_rfl)]
      intro x hb hd K hk
      clear hd
      go_wp2_with fail
      exact hk _ _ rfl trivial (Below.refl _ _)
    rintro _ rfl
    simp only [Act.put, List.setIfInBounds_toArray, List.set_cons_succ, List.set_cons_zero]
    refine ⟨?_, ?_⟩
    focus
      unfold opGoal
      rw [if_pos (by kernel_rfl)]
      intro x hb hd K hk
      clear hd
      go_wp2_with fail
      exact hk _ _ rfl trivial (Below.refl _ _)
    rintro _ rfl
    simp only [Act.put, List.setIfInBounds_toArray, List.set_cons_succ, List.set_cons_zero]
    refine ⟨?_, ?_⟩
    focus
      unfold opGoal
      rw [if_pos (by kernel_rfl)]
      intro x hb hd K hk
      clear hd
      go_wp2_with fail
      exact hk _ _ rfl trivial (Below.refl _ _)
    rintro _ rfl
    simp only [Act.put, List.setIfInBounds_toArray, List.set_cons_succ, List.set_cons_zero]
    refine ⟨?_, ?_⟩
    focus
      unfold opGoal
      rw [if_pos (by kernel_rfl)]
      intro x hb hd K hk
      clear hd
      go_wp2_with fail
      exact hk _ _ rfl trivial (Below.refl _ _)
    rintro _ rfl
    simp only [Act.put, List.setIfInBounds_toArray, List.set_cons_succ, List.set_cons_zero]
    refine ⟨?_, ?_⟩
    focus
      unfold opGoal
      rw [if_pos (by kernel_rfl)]
      intro x hb hd K hk
      clear hd
      have hbx : Below w4.heap.size w4 x := by assumption
      go_wp2_with fail
      refine (C3.out x hbx).mono ?_
      rintro e x' ⟨u, rfl, h1, hb'⟩
      exact hk _ _ (let ⟨A, c, h1, _⟩ := h1; ⟨A, _, c, h1⟩) (h1.mono hbx.size) hb'
    rintro _ ⟨A7, n7, c7, rfl⟩
    simp only [Act.put, List.setIfInBounds_toArray, List.set_cons_succ, List.set_cons_zero]
    refine ⟨?_, ?_⟩
    focus
      unfold opGoal
      rw [if_pos (by kernel_rfl)]
      intro x hb hd K hk
      clear hd
      go_wp2_with fail
      exact hk _ _ rfl trivial (Below.refl _ _)
    rintro _ rfl
    simp only [Act.put, List.setIfInBounds_toArray, List.set_cons_succ, List.set_cons_zero]
    refine ⟨?_, ?_⟩
    focus
      unfold opGoal
      rw [if_pos (by kernel_rfl)]
      intro x hb hd K hk
      clear hd
      go_wp2_with fail
      exact hk _ _ rfl trivial (Below.refl _ _)
    rintro _ rfl
    simp only [Act.put, List.setIfInBounds_toArray, List.set_cons_succ, List.set_cons_zero]
    refine ⟨?_, ?_⟩
    focus
      unfold opGoal
      rw [if_pos (by kernel_rfl)]
      intro x hb hd K hk
      clear hd
      go_wp2_with fail
      exact hk _ _ rfl trivial (Below.refl _ _)
    rintro _ rfl
    simp only [Act.put, List.setIfInBounds_toArray, List.set_cons_succ, List.set_cons_zero]
    refine ⟨?_, ?_⟩
    focus
      unfold opGoal
      rw [if_pos (by kernel_rfl)]
      intro x hb hd K hk
      clear hd
      have l0 := cell_keep hb d1
      go_wp2_with fail
      exact hk _ _ rfl trivial (Below.refl _ _)
    rintro _ rfl
    simp only [Act.put, List.setIfInBounds_toArray, List.set_cons_succ, List.set_cons_zero]
    refine ⟨?_, ?_⟩
    focus
      unfold opGoal
      rw [if_pos (by kernel_rfl)]
      intro x hb hd K hk
      have hbx : Below w4.heap.size w4 x := by assumption
      have hT := hd ⟨24, .data⟩ (by simp) rfl (txT w4.heap.size sx.args) (.slice A7 n7 c7) (by kernel_rfl) (by kernel_rfl)
      clear hd
      have HT := Lib.hid (C4.out x hbx _ hT)
      clear hT
      go_wp2_with fail
      refine HT.out.mono ?_
      rintro e x' ⟨rfl, hb'⟩
      exact hk _ _ rfl trivial hb'
    rintro _ rfl
    simp only [Act.put, List.setIfInBounds_toArray, List.set_cons_succ, List.set_cons_zero]
    refine ⟨?_, ?_⟩
    focus
      unfold opGoal
      rw [if_pos (by kernel_rfl)]
      intro x hb hd K hk
      clear hd
      go_wp2_with fail
      exact hk _ _ rfl trivial (Below.refl _ _)
    rintro _ rfl
    simp only [Act.put, List.setIfInBounds_toArray, List.set_cons_succ, List.set_cons_zero]
    refine ⟨?_, ?_⟩
    focus
      unfold opGoal
      rw [if_pos (by kernel_rfl)]
      intro x hb hd K hk
      clear hd
      go_wp2_with fail
      exact hk _ _ rfl trivial (Below.refl _ _)
    rintro _ rfl
    simp only [Act.put, List.setIfInBounds_toArray, List.set_cons_succ, List.set_cons_zero]
    refine ⟨?_, ?_⟩
    focus
      unfold opGoal
      rw [if_pos (by kernel_rfl)]
      intro x hb hd K hk
      clear hd
      go_wp2_with fail
      exact hk _ _ rfl trivial (Below.refl _ _)
    rintro _ rfl
    simp only [Act.put, List.setIfInBounds_toArray, List.set_cons_succ, List.set_cons_zero]
    refine ⟨?_, ?_⟩
    focus
      unfold opGoal
      rw [if_pos (by kernel_rfl)]
      intro x hb hd K hk
      clear hd
      go_wp2_with fail
      exact hk _ _ rfl trivial (Below.refl _ _)
    rintro _ rfl
    simp only [Act.put, List.setIfInBounds_toArray, List.set_cons_succ, List.set_cons_zero]
    refine ⟨?_, ?_⟩
    focus
      unfold opGoal
      rw [if_pos (by kernel_rfl)]
      intro x hb hd K hk
      clear hd
      go_wp2_with fail
      exact hk _ _ rfl trivial (Below.refl _ _)
    rintro _ rfl
    simp only [Act.put, List.setIfInBounds_toArray, List.set_cons_succ, List.set_cons_zero]
    refine ⟨?_, ?_⟩
    focus
      unfold opGoal
      rw [if_pos (by kernel_rfl)]
      intro x hb hd K hk
      clear hd
      go_wp2_with fail
      exact hk _ _ rfl trivial (Below.refl _ _)
    rintro _ rfl
    simp only [Act.put, List.setIfInBounds_toArray, List.set_cons_succ, List.set_cons_zero]
    refine ⟨?_, ?_⟩
    focus
      unfold opGoal
      rw [if_pos (by kernel_rfl)]
      intro x hb hd K hk
      clear hd
      have hbx : Below w4.heap.size w4 x := by assumption
      go_wp2_with fail
      refine (C5.out x hbx).mono ?_
      rintro e x' ⟨u, rfl, h1, hb'⟩
      exact hk _ _ (let ⟨A, c, _, h1, _⟩ := h1; ⟨A, c, h1⟩) h1.rd hb'
    rintro _ ⟨A8, c8, rfl⟩
    simp only [Act.put, List.setIfInBounds_toArray, List.set_cons_succ, List.set_cons_zero]
    refine ⟨?_, ?_⟩
    focus
      unfold opGoal
      rw [if_pos (by kernel_rfl)]
      intro x hb hd K hk
      clear hd
      go_wp2_with fail
      exact hk _ _ rfl trivial (Below.refl _ _)
    rintro _ rfl
    simp only [Act.put, List.setIfInBounds_toArray, List.set_cons_succ, List.set_cons_zero]
    refine ⟨?_, ?_⟩
    focus
      unfold opGoal
      rw [if_pos (by kernel_rfl)]
      intro x hb hd K hk
      clear hd
      go_wp2_with fail
      exact hk _ _ rfl trivial (Below.refl _ _)
    rintro _ rfl
    simp only [Act.put, List.setIfInBounds_toArray, List.set_cons_succ, List.set_cons_zero]
    refine ⟨?_, ?_⟩
    focus
      unfold opGoal
      rw [if_pos (by kernel_rfl)]
      intro x hb hd K hk
      clear hd
      go_wp2_with fail
      exact hk _ _ rfl trivial (Below.refl _ _)
    rintro _ rfl
    simp only [Act.put, List.setIfInBounds_toArray, List.set_cons_succ, List.set_cons_zero]
    refine ⟨?_, ?_⟩
    focus
      unfold opGoal
      rw [if_pos (by kernel_rfl)]
      intro x hb hd K hk
      clear hd
      have l0 := cell_keep hb d0
      go_wp2_with fail
      exact hk _ _ rfl trivial (Below.refl _ _)
    rintro _ rfl
    simp only [Act.put, List.setIfInBounds_toArray, List.set_cons_succ, List.set_cons_zero]
    refine ⟨?_, ?_⟩
    focus
      unfold opGoal
      rw [if_pos (by kernel_rfl)]
      intro x hb hd K hk
      have hbx : Below w4.heap.size w4 x := by assumption
      have hT := hd ⟨36, .data⟩ (by simp) rfl (vaT sx.vars) (.slice A8 sx.vars.length c8) (by kernel_rfl) (by kernel_rfl)
      clear hd
      have HT := Lib.hid (C6.out x hbx _ hT)
      clear hT
      go_wp2_with fail
      refine HT.out.mono ?_
      rintro e x' ⟨rfl, hb'⟩
      exact hk _ _ rfl trivial hb'
    rintro _ rfl
    simp only [Act.put, List.setIfInBounds_toArray, List.set_cons_succ, List.set_cons_zero]
    refine ⟨?_, ?_⟩
    focus
      unfold opGoal
      rw [if_pos (by kernel_rfl)]
      intro x hb hd K hk
      clear hd
      go_wp2_with fail
      exact hk _ _ rfl trivial (Below.refl _ _)
    rintro _ rfl
    simp only [Act.put, List.setIfInBounds_toArray, List.set_cons_succ, List.set_cons_zero]
    refine ⟨?_, ?_⟩
    focus
      unfold opGoal
      rw [if_pos (by kernel_rfl)]
      intro x hb hd K hk
      clear hd
      go_wp2_with fail
      exact hk _ _ rfl trivial (Below.refl _ _)
    rintro _ rfl
    simp only [Act.put, List.setIfInBounds_toArray, List.set_cons_succ, List.set_cons_zero]
    intro x hbx hf
    have HB5 := Lib.hid (HB4.out.trans (hbx.mono HB4.out.size))
    have HI5 := Lib.hid (HI.out.below HB5.out)
    have HD5 := Lib.hid (HD.out.below HB5.out)
    have HFU := Lib.hid (funs_any st vb fb N sx F x HI5.out HS.out.n)
    generalize x = w5 at *
    clear hf C1 C2 C3 C4 C5 C6 HI HD hbx HI5 d0 d1 H14 H24 H34 H4 HB4
    go_wp2_with fail
    refine HFU.out.mono ?_
    rintro e w6 ⟨v6, rfl, h6, hb6⟩
    have HB6 := Lib.hid (HB5.out.trans (hb6.mono HB5.out.size))
    obtain ⟨vv, va, vf, hq, _, _, hqf⟩ := (HD5.out.below hb6).blk
    have HQ := Lib.hid hq
    obtain ⟨Af, cf, vs, rfl, hr, hg, _⟩ := hqf.rd
    have HR := Lib.hid hr
    have HG := Lib.hid hg
    obtain ⟨A6, c6, rfl, hr6, _⟩ := h6.rd
    have HR6 := Lib.hid hr6
    rw [List.length_map] at *
    obtain ⟨m, hm⟩ : ∃ m, m = F.length := ⟨_, rfl⟩
    have hm5 : m ≤ 100000 := by rw [hm]; exact HS.out.g
    rw [← hm] at HQ ⊢
    have HM := Lib.hid hm
    clear hb6 HFU HD5 hq hqf hr hg h6 hr6 hm HB5
    go_wp2_with fail
    go_loopw [16] (fun i wr => ∃ k : Nat, k ≤ m ∧ i = .int .i64 k ∧ Below w6.heap.size w6 wr) (fun i _ => m - (intOf i).toNat)
    case atStart => exact ⟨0, Nat.zero_le _, rfl, Below.refl _ _⟩
    case round =>
      obtain ⟨k, hk, rfl, hbr⟩ := hrel
      have c2 := (HQ.out.below hbr).cell 2
      simp only [List.getElem?_toArray, List.getElem?_cons_succ, List.getElem?_cons_zero] at c2
      by_cases hlt : k < m
      · have hkF : k < F.length := by rw [← HM.out]; exact hlt
        have hkv : k < vs.length := by rw [HG.out.1]; exact hkF
        obtain ⟨bf, of, rfl, _, hcf⟩ := (HR.out.below hbr) k hkv
        obtain ⟨b6, o6, rfl, _, hc6⟩ := (HR6.out.below hbr) k (by rw [List.length_map]; exact hkF)
        have q0 := hcf 0 _ rfl
        have q6 := hc6 0 _ rfl
        rw [(HG.out.2 k hkv hkF).1] at q0
        simp only [List.getElem_map, Nat.mul_one, Nat.add_zero] at q6 q0
        generalize F[k].1 = nm at *
        have l0 := Later.cell q0
        have l6 := Later.cell q6
        have l2 := Later.cell c2
        clear hcf hc6 q0 q6 c2 hkF hkv
        have hge : decide (m ≤ k) = false := decide_eq_false (by omega)
        go_upto_region 11 with (fail)
        refine wp_region_eq (by kernel_rfl) (by kernel_rfl) ?_
        apply EqGo.run
        focus
          kernel_rfl
        focus
          intro x K hK
          go_wp2_with fail
          first | exact hK x (Below.refl _ _) | exact Below.refl _ _
        simp only [Act.put, List.setIfInBounds_toArray, List.set_cons_succ, List.set_cons_zero]
        apply EqGo.run
        focus
          kernel_rfl
        focus
          intro x K hK
          go_wp2_with fail
          first | exact hK x (Below.refl _ _) | exact Below.refl _ _
        simp only [Act.put, List.setIfInBounds_toArray, List.set_cons_succ, List.set_cons_zero]
        apply EqGo.run
        focus
          kernel_rfl
        focus
          intro x K hK
          go_wp2_with fail
          first | exact hK x (Below.refl _ _) | exact Below.refl _ _
        simp only [Act.put, List.setIfInBounds_toArray, List.set_cons_succ, List.set_cons_zero]
        apply EqGo.run
        focus
          kernel_rfl
        focus
          intro x K hK
          go_wp2_with fail
          first | exact hK x (Below.refl _ _) | exact Below.refl _ _
        simp only [Act.put, List.setIfInBounds_toArray, List.set_cons_succ, List.set_cons_zero]
        apply EqGo.run
        focus
          kernel_rfl
        focus
          intro x K hK
          go_wp2_with fail
          first | exact hK x (Below.refl _ _) | exact Below.refl _ _
        simp only [Act.put, List.setIfInBounds_toArray, List.set_cons_succ, List.set_cons_zero]
        apply EqGo.run
        focus
          kernel_rfl
        focus
          intro x K hK
          go_wp2_with fail
          first | exact hK x (Below.refl _ _) | exact Below.refl _ _
        simp only [Act.put, List.setIfInBounds_toArray, List.set_cons_succ, List.set_cons_zero]
        apply EqGo.run
        focus
          kernel_rfl
        focus
          intro x K hK
          go_wp2_with fail
          first | exact hK x (Below.refl _ _) | exact Below.refl _ _
        simp only [Act.put, List.setIfInBounds_toArray, List.set_cons_succ, List.set_cons_zero]
        apply EqGo.run
        focus
          kernel_rfl
        focus
          intro x K hK
          go_wp2_with fail
          first | exact hK x (Below.refl _ _) | exact Below.refl _ _
        simp only [Act.put, List.setIfInBounds_toArray, List.set_cons_succ, List.set_cons_zero]
        apply EqGo.run
        focus
          kernel_rfl
        focus
          intro x K hK
          go_wp2_with fail
          first | exact hK x (Below.refl _ _) | exact Below.refl _ _
        simp only [Act.put, List.setIfInBounds_toArray, List.set_cons_succ, List.set_cons_zero]
        apply EqGo.run
        focus
          kernel_rfl
        focus
          intro x K hK
          go_wp2_with fail
          first | exact hK x (Below.refl _ _) | exact Below.refl _ _
        simp only [Act.put, List.setIfInBounds_toArray, List.set_cons_succ, List.set_cons_zero]
        apply EqGo.run
        focus
          kernel_rfl
        focus
          intro x K hK
          go_wp2_with fail
          first | exact hK x (Below.refl _ _) | exact Below.refl _ _
        simp only [Act.put, List.setIfInBounds_toArray, List.set_cons_succ, List.set_cons_zero]
        apply EqGo.run
        focus
          kernel_rfl
        focus
          intro x K hK
          go_wp2_with fail
          first | exact hK x (Below.refl _ _) | exact Below.refl _ _
        simp only [Act.put, List.setIfInBounds_toArray, List.set_cons_succ, List.set_cons_zero]
        apply EqGo.run
        focus
          kernel_rfl
        focus
          intro x K hK
          go_wp2_with fail
          first | exact hK x (Below.refl _ _) | exact Below.refl _ _
        simp only [Act.put, List.setIfInBounds_toArray, List.set_cons_succ, List.set_cons_zero]
        apply EqGo.run
        focus
          kernel_rfl
        focus
          intro x K hK
          go_wp2_with fail
          first | exact hK x (Below.refl _ _) | exact Below.refl _ _
        simp only [Act.put, List.setIfInBounds_toArray, List.set_cons_succ, List.set_cons_zero]
        apply EqGo.run
        focus
          kernel_rfl
        focus
          intro x K hK
          go_wp2_with fail
          first | exact hK x (Below.refl _ _) | exact Below.refl _ _
        simp only [Act.put, List.setIfInBounds_toArray, List.set_cons_succ, List.set_cons_zero]
        apply EqGo.run
        focus
          kernel_rfl
        focus
          intro x K hK
          go_wp2_with fail
          first | exact hK x (Below.refl _ _) | exact Below.refl _ _
        simp only [Act.put, List.setIfInBounds_toArray, List.set_cons_succ, List.set_cons_zero]
        apply EqGo.run
        focus
          kernel_rfl
        focus
          intro x K hK
          go_wp2_with fail
          first | exact hK x (Below.refl _ _) | exact Below.refl _ _
        simp only [Act.put, List.setIfInBounds_toArray, List.set_cons_succ, List.set_cons_zero]
        apply EqGo.run
        focus
          kernel_rfl
        focus
          intro x K hK
          go_wp2_with fail
          first | exact hK x (Below.refl _ _) | exact Below.refl _ _
        simp only [Act.put, List.setIfInBounds_toArray, List.set_cons_succ, List.set_cons_zero]
        apply EqGo.run
        focus
          kernel_rfl
        focus
          intro x K hK
          go_wp2_with fail
          first | exact hK x (Below.refl _ _) | exact Below.refl _ _
        simp only [Act.put, List.setIfInBounds_toArray, List.set_cons_succ, List.set_cons_zero]
        apply EqGo.run
        focus
          kernel_rfl
        focus
          intro x K hK
          go_wp2_with fail
          first | exact hK x (Below.refl _ _) | exact Below.refl _ _
        simp only [Act.put, List.setIfInBounds_toArray, List.set_cons_succ, List.set_cons_zero]
        apply EqGo.run
        focus
          kernel_rfl
        focus
          intro x K hK
          go_wp2_with fail
          first | exact hK x (Below.refl _ _) | exact Below.refl _ _
        simp only [Act.put, List.setIfInBounds_toArray, List.set_cons_succ, List.set_cons_zero]
        apply EqGo.run
        focus
          kernel_rfl
        focus
          intro x K hK
          go_wp2_with fail
          first | exact hK x (Below.refl _ _) | exact Below.refl _ _
        simp only [Act.put, List.setIfInBounds_toArray, List.set_cons_succ, List.set_cons_zero]
        intro wx
        have hbx := hbr.trans (wx.below.mono hbr.size)
        clear l0 l6 l2 hbr
        go_wp2_with fail
        go_roundw
        case rel => exact ⟨k + 1, by omega, by go_num, hbx⟩
        case measure => simp [intOf]; omega
      · obtain rfl : k = m := by omega
        have hbf := HB6.out.trans (hbr.mono HB6.out.size)
        go_wp2_with fail
        go_ret
        exact ⟨rfl, hbf⟩
end Go.Proofs.Ytcnkljbckpkgcaa
