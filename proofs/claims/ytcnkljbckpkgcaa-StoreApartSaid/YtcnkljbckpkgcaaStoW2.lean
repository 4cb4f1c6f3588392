/- The walks over a store's methods that ask and take away, and over its functions. Bounds on the lengths. -/
import Derived.Test.YtcnkljbckpkgcaaStoW1
set_option linter.unusedVariables false
set_option linter.unusedSimpArgs false
namespace Go.Proofs.Ytcnkljbckpkgcaa
variable {X : Nat → Prop}
open Go.RowKit Go.Maps

theorem TxR.nil (w : World) : TxR w (.slice none 0 0) [] := ⟨none, 0, rfl, RdL.nil _ _ _ _, fun _ => rfl, Nat.le_refl _, Nat.zero_le _⟩
theorem SlRd.nil (w : World) : SlRd w (.slice none 0 0) [] := ⟨none, 0, rfl, RdL.nil _ _ _ _, Nat.le_refl _, Nat.zero_le _, fun _ => rfl, trivial⟩
def GetRet (r : List Txt × Bool) (w : World) (e : Ending) (w' : World) : Prop := ∃ v, e = .returned (.tuple #[v, .bool r.2]) ∧ OwnT w' w.heap.size v r.1 ∧ Below w.heap.size w w'
theorem zslT (W : World) : (zeroValue 29).run Try.prog W = .ok (.slice none 0 0) W := Try.zeroValue29 W
theorem zslN (W : World) : (zeroValue 38).run Try.prog W = .ok (.slice none 0 0) W := Try.zeroValue38 W
set_option maxHeartbeats 2000000 in
theorem get_any (st vb fb N : Nat) (x : Sto) (F : List (Txt × List Nd)) (n : Txt) (w : World) (h : StI X w st vb fb N x F) (hs : SmS x) (hn : n.length ≤ maxLen) :
    Calls Try.prog 13 #[.pointer (some ⟨st, 0, none⟩), .string ⟨n.toArray⟩] w (GetRet (getS x n) w) := by
  cases hc : (n == [42])
  case true =>
    have HX := Lib.hid (show getS x n = (x.args, true) by unfold getS star; rw [if_pos (by simpa using hc)])
    have HA := Lib.hid (args_any st vb fb N x F w h hs.args)
    clear h
    go_enter Try.func13, Try.ntmps13
    go_wp2_with fail
    refine HA.out.mono ?_
    rintro e w1 ⟨v, rfl, h1, hb1⟩
    have H1 := Lib.hid h1
    obtain ⟨A1, c1', rfl, -⟩ := h1
    go_wp2_with fail
    go_ret2
    exact ⟨_, by rw [HX.out]; rfl, by rw [HX.out]; exact H1.out, hb1⟩
  case false =>
    obtain ⟨u, hlk, hu1, hu2⟩ := h.vars.look Try.underlying44 zslT (s := n) hn
    have HX := Lib.hid (show getS x n = ((lookA x.vars n).getD [], (lookA x.vars n).isSome) by unfold getS star; rw [if_neg (by simpa using hc)])
    have hu : TxR w u ((lookA x.vars n).getD []) ∧ ((lookA x.vars n).getD []).length ≤ 1000000 := by
      cases hl : lookA x.vars n with
      | none => rw [hu1 hl]; exact ⟨TxR.nil _, Nat.zero_le _⟩
      | some l => exact ⟨(hu2 l hl).rd, hs.vars n l hl⟩
    have HC := Lib.hid (cloneT_any u _ w hu.1 hu.2)
    obtain ⟨va, hb, hr⟩ := h.blk
    have c0 := hb.cell 0
    simp only [List.getElem?_toArray, List.getElem?_cons_succ, List.getElem?_cons_zero] at c0
    obtain ⟨A, c, he, -⟩ := hu.1
    subst he
    clear hb hr h hu1 hu2 hu
    generalize (lookA x.vars n).getD [] = L at *
    generalize (lookA x.vars n).isSome = q at *
    generalize L.length = m at *
    go_enter Try.func13, Try.ntmps13
    go_wp2_with fail
    refine HC.out.mono ?_
    rintro e w1 ⟨v, rfl, h1, hb1⟩
    have H1 := Lib.hid h1
    obtain ⟨A1, c1', rfl, -⟩ := h1
    go_wp2_with fail
    go_ret2
    exact ⟨_, by rw [HX.out]; rfl, by rw [HX.out]; exact H1.out, hb1⟩
set_option maxHeartbeats 2000000 in
theorem unset_any (st vb fb N : Nat) (x : Sto) (F : List (Txt × List Nd)) (n : Txt) (w : World) (h : StI X w st vb fb N x F) (hn : n.length ≤ maxLen) :
    Calls Try.prog 28 #[.pointer (some ⟨st, 0, none⟩), .string ⟨n.toArray⟩] w (SetRet X st vb fb N (unsetS x n) F w) := by
  have HI := Lib.hid h
  obtain ⟨va, hb, hr⟩ := h.blk
  have c0 := hb.cell 0
  have c1 := hb.cell 1
  have f1 := hb.frozen 1
  simp only [List.getElem?_toArray, List.getElem?_cons_succ, List.getElem?_cons_zero] at c0 c1
  cases hs : (n == [42])
  case true =>
    have HX := Lib.hid (show unsetS x n = ⟨x.vars, []⟩ by unfold unsetS star; rw [if_pos (by simpa using hs)])
    have HS := Lib.hid (h.setArgs (OT.nil w))
    clear c0 hb hr h
    go_enter Try.func28, Try.ntmps28
    go_wp2_with fail
    go_returns
    exact ⟨rfl, by rw [HX.out]; exact HS.out.1, HS.out.2⟩
  case false =>
    have HX := Lib.hid (show unsetS x n = ⟨delA n x.vars, x.args⟩ by unfold unsetS star; rw [if_neg (by simpa using hs)])
    obtain ⟨wy, hdel, hI, hbz⟩ := h.drop Try.underlying44 (n := n) hn 0
    have HI2 := Lib.hid hI
    have HBZ := Lib.hid hbz
    clear hI hbz hb hr h c1 f1
    go_enter Try.func28, Try.ntmps28
    go_wp2_with fail
    go_returns
    exact ⟨rfl, by rw [HX.out]; exact HI2.out, HBZ.out⟩
/-- What a swap tells and leaves. -/
def SwapRet (X : Nat → Prop) (st vb fb N : Nat) (r : List Txt × Bool) (x : Sto) (F : List (Txt × List Nd)) (w : World) (e : Ending) (w' : World) : Prop :=
  ∃ v, e = .returned (.tuple #[v, .bool r.2]) ∧ OwnT w' w.heap.size v r.1 ∧ StI X w' st vb fb N x F ∧ ButS [st, vb, fb] w w'
set_option maxHeartbeats 2000000 in
theorem swap_any (st vb fb N : Nat) (x : Sto) (F : List (Txt × List Nd)) (n : Txt) (has : Bool) (v : Value) (l : List Txt) (w : World) (h : StI X w st vb fb N x F) (hs : SmS x) (hN : N ≤ 1000000) (hn : n.length ≤ maxLen) (hv : TxR w v l) (hl : l.length ≤ 1000000) :
    Calls Try.prog 17 #[.pointer (some ⟨st, 0, none⟩), .string ⟨n.toArray⟩, .bool has, v] w (SwapRet X st vb fb (N + 1) (getS x n) (swapS x n has l) F w) := by
  have HI := Lib.hid h
  have HG := Lib.hid (get_any st vb fb N x F n w h hs hn)
  have HV := Lib.hid hv
  obtain ⟨A, c, rfl, -⟩ := hv
  clear h
  obtain ⟨m, hm⟩ : ∃ m, m = l.length := ⟨_, rfl⟩
  rw [← hm] at HV ⊢
  clear hm
  go_enter Try.func17, Try.ntmps17
  go_wp2_with fail
  refine HG.out.mono ?_
  rintro e w1 ⟨u, rfl, h1, hb1⟩
  have H1 := Lib.hid h1
  have HI1 := Lib.hid (HI.out.below hb1)
  obtain ⟨A1, c1', rfl, -⟩ := h1
  generalize (getS x n).1.length = k at *
  cases has
  case true =>
    have HS := Lib.hid (set_any st vb fb N x F n _ l w1 HI1.out hN hn (HV.out.below hb1) hl)
    go_wp2_with fail
    refine HS.out.mono ?_
    rintro e w2 ⟨rfl, h2, hb2⟩
    have H2 := Lib.hid h2
    have HB2 := Lib.hid hb2
    clear h2 hb2
    go_wp2_with fail
    go_ret2
    exact ⟨_, rfl, H1.out.butS HI1.out.s HB2.out, H2.out, (ButS.of hb1).trans HB2.out⟩
  case false =>
    have HS := Lib.hid (unset_any st vb fb N x F n w1 HI1.out hn)
    go_wp2_with fail
    refine HS.out.mono ?_
    rintro e w2 ⟨rfl, h2, hb2⟩
    have H2 := Lib.hid h2
    have HB2 := Lib.hid hb2
    clear h2 hb2
    go_wp2_with fail
    go_ret2
    exact ⟨_, rfl, H1.out.butS HI1.out.s HB2.out, H2.out.mono (Nat.le_succ N), (ButS.of hb1).trans HB2.out⟩
/-- What setting the arguments tells and leaves. -/
def SetARet (X : Nat → Prop) (st vb fb N : Nat) (old : List Txt) (x : Sto) (F : List (Txt × List Nd)) (w : World) (e : Ending) (w' : World) : Prop :=
  ∃ v, e = .returned v ∧ OT X w' v old ∧ StI X w' st vb fb N x F ∧ ButS [st, vb, fb] w w'
set_option maxHeartbeats 2000000 in
theorem setargs_any (st vb fb N : Nat) (x : Sto) (F : List (Txt × List Nd)) (v : Value) (l : List Txt) (w : World) (h : StI X w st vb fb N x F) (hv : TxR w v l) (hl : l.length ≤ 1000000) :
    Calls Try.prog 18 #[.pointer (some ⟨st, 0, none⟩), v] w (SetARet X st vb fb N x.args ⟨x.vars, l⟩ F w) := by
  have HC := Lib.hid (fun (W : World) (hb : Below w.heap.size w W) => cloneT_any v l W (hv.below hb) hl)
  have HI := Lib.hid h
  obtain ⟨va, hb, hr⟩ := h.blk
  have c1 := hb.cell 1
  have HB := Lib.hid hb
  have HR := Lib.hid hr
  simp only [List.getElem?_toArray, List.getElem?_cons_succ, List.getElem?_cons_zero] at c1
  obtain ⟨A, c, rfl, -⟩ := hv
  obtain ⟨⟨A0, c0, rfl, -⟩, -⟩ := hr
  clear hb h
  generalize l.length = m at *
  generalize x.args.length = k at *
  go_enter Try.func18, Try.ntmps18
  go_wp2_with fail
  refine (HC.out w (Below.refl _ _)).mono ?_
  rintro e w1 ⟨u, rfl, h1, hb1⟩
  have HS := Lib.hid ((HI.out.below hb1).setArgs (h1.ot HI.out.lo))
  have q1 := (HB.out.below hb1).cell 1
  have f1 := (HB.out.below hb1).frozen 1
  simp only [List.getElem?_toArray, List.getElem?_cons_succ, List.getElem?_cons_zero] at q1
  obtain ⟨A1, c1', rfl, -⟩ := h1
  have HB1 := Lib.hid hb1
  clear hb1 c1
  go_wp2_with fail
  go_ret
  exact ⟨_, rfl, (HR.out.below HB1.out).butS (HI.out.below HB1.out).s HS.out.2, HS.out.1, (ButS.of HB1.out).trans HS.out.2⟩
def GetFRet (r : List Nd × Bool) (w : World) (e : Ending) (w' : World) : Prop := ∃ v, e = .returned (.tuple #[v, .bool r.2]) ∧ OwnN w' w.heap.size v r.1 ∧ Below w.heap.size w w'
def getF (F : List (Txt × List Nd)) (n : Txt) : List Nd × Bool := ((lookA F n).getD [], (lookA F n).isSome)
def SmF (F : List (Txt × List Nd)) : Prop := ∀ n l, lookA F n = some l → l.length ≤ 1000000
set_option maxHeartbeats 2000000 in
theorem fun_any (st vb fb N : Nat) (x : Sto) (F : List (Txt × List Nd)) (n : Txt) (w : World) (h : StI X w st vb fb N x F) (hs : SmF F) (hn : n.length ≤ maxLen) :
    Calls Try.prog 15 #[.pointer (some ⟨st, 2, none⟩), .string ⟨n.toArray⟩] w (GetFRet (getF F n) w) := by
  obtain ⟨u, hlk, hu1, hu2⟩ := h.funs.look Try.underlying47 zslN (s := n) hn
  have HX := Lib.hid (show getF F n = ((lookA F n).getD [], (lookA F n).isSome) from rfl)
  have hu : SlRd w u ((lookA F n).getD []) ∧ ((lookA F n).getD []).length ≤ 1000000 := by
    cases hl : lookA F n with
    | none => rw [hu1 hl]; exact ⟨SlRd.nil _, Nat.zero_le _⟩
    | some l => exact ⟨(hu2 l hl).rd, hs n l hl⟩
  have HC := Lib.hid (cloneN_any u _ w hu.1 hu.2)
  obtain ⟨va, hb, hr⟩ := h.blk
  have c0 := hb.cell 2
  simp only [List.getElem?_toArray, List.getElem?_cons_succ, List.getElem?_cons_zero] at c0
  obtain ⟨A, c, he, -⟩ := hu.1
  subst he
  clear hb hr h hu1 hu2 hu
  rw [HX.out]
  generalize (lookA F n).getD [] = L at *
  generalize (lookA F n).isSome = q at *
  generalize L.length = m at *
  go_enter Try.func15, Try.ntmps15
  go_wp2_with fail
  refine HC.out.mono ?_
  rintro e w1 ⟨v, rfl, h1, hb1⟩
  have H1 := Lib.hid h1
  obtain ⟨A1, c1', rfl, -⟩ := h1
  go_wp2_with fail
  go_ret2
  exact ⟨_, rfl, H1.out, hb1⟩
set_option maxHeartbeats 2000000 in
theorem setfun_any (st vb fb N : Nat) (x : Sto) (F : List (Txt × List Nd)) (n : Txt) (v : Value) (l : List Nd) (w : World) (h : StI X w st vb fb N x F) (hN : N ≤ 1000000) (hn : n.length ≤ maxLen) (hv : SlRd w v l) (hl : l.length ≤ 1000000) :
    Calls Try.prog 29 #[.pointer (some ⟨st, 2, none⟩), .string ⟨n.toArray⟩, v] w (SetRet X st vb fb (N + 1) x (putA n l F) w) := by
  have HC := Lib.hid (fun (W : World) (hb : Below w.heap.size w W) => cloneN_any v l W (hv.below hb) hl)
  have HI := Lib.hid h
  obtain ⟨va, hb, hr⟩ := h.blk
  have c0 := hb.cell 2
  simp only [List.getElem?_toArray, List.getElem?_cons_succ, List.getElem?_cons_zero] at c0
  obtain ⟨A, c, rfl, -⟩ := hv
  obtain ⟨m, hm⟩ : ∃ m, m = l.length := ⟨_, rfl⟩
  rw [← hm] at HC hl ⊢
  clear hb hr h hm
  go_enter Try.func29, Try.ntmps29
  go_upto_region 0 with (fail)
  apply wp_region_relA 7 [eqT _, eqT _, eqT _, eqT _, eqT _, eqT _, ndT' w.heap.size l] (by kernel_rfl) (by kernel_rfl) (by kernel_rfl) rfl
  focus
    refine ⟨?_, ?_⟩
    focus
      unfold opGoal
      rw [if_pos (by kernel_rfl)]
      intro x hb hd K hk
      clear hd
      go_wp2_with fail
      exact hk _ _ rfl trivial (Below.refl _ _)
    rintro _ rfl
    simp only [Act.put, List.setIfInBounds_toArray, List.set_cons_succ, List.set_cons_zero]
    refine ⟨?_, ?_⟩
    focus
      unfold opGoal
      rw [if_pos (by kernel_rfl)]
      intro x hb hd K hk
      clear hd
      go_wp2_with fail
      exact hk _ _ rfl trivial (Below.refl _ _)
    rintro _ rfl
    simp only [Act.put, List.setIfInBounds_toArray, List.set_cons_succ, List.set_cons_zero]
    refine ⟨?_, ?_⟩
    focus
      unfold opGoal
      rw [if_pos (by kernel_rfl)]
      intro x hb hd K hk
      clear hd
      go_wp2_with fail
      exact hk _ _ rfl trivial (Below.refl _ _)
    rintro _ rfl
    simp only [Act.put, List.setIfInBounds_toArray, List.set_cons_succ, List.set_cons_zero]
    refine ⟨?_, ?_⟩
    focus
      unfold opGoal
      rw [if_pos (by kernel_rfl)]
      intro x hb hd K hk
      clear hd
      have l0 := cell_keep hb c0
      go_wp2_with fail
      exact hk _ _ rfl trivial (Below.refl _ _)
    rintro _ rfl
    simp only [Act.put, List.setIfInBounds_toArray, List.set_cons_succ, List.set_cons_zero]
    refine ⟨?_, ?_⟩
    focus
      unfold opGoal
      rw [if_pos (by kernel_rfl)]
      intro x hb hd K hk
      clear hd
      go_wp2_with fail
      exact hk _ _ rfl trivial (Below.refl _ _)
    rintro _ rfl
    simp only [Act.put, List.setIfInBounds_toArray, List.set_cons_succ, List.set_cons_zero]
    refine ⟨?_, ?_⟩
    focus
      unfold opGoal
      rw [if_pos (by kernel_rfl)]
      intro x hb hd K hk
      clear hd
      go_wp2_with fail
      exact hk _ _ rfl trivial (Below.refl _ _)
    rintro _ rfl
    simp only [Act.put, List.setIfInBounds_toArray, List.set_cons_succ, List.set_cons_zero]
    refine ⟨?_, ?_⟩
    focus
      unfold opGoal
      rw [if_pos (by kernel_rfl)]
      intro x hb hd K hk
      clear hd
      go_wp2_with fail
      refine (HC.out x (by assumption)).mono ?_
      rintro e9 w9 ⟨u, rfl, h1, hb9⟩
      exact hk _ _ (by obtain ⟨A1, c1, rfl, _⟩ := h1; exact ⟨_, _, _, rfl⟩) (h1.mono hb.size) hb9
    rintro _ ⟨A7, n7, c7, rfl⟩
    simp only [Act.put, List.setIfInBounds_toArray, List.set_cons_succ, List.set_cons_zero]
    intro y hby hf
    simp only [List.drop_succ_cons, List.drop_zero]
    have hT : OwnN y w.heap.size (.slice A7 n7 c7) l := hf 6 _ _ rfl rfl
    clear hf
    obtain ⟨wy, hput, hI, hbz⟩ := (HI.out.below hby).putF Try.underlying47 (by unfold maxLen; omega) (n := n) hn (hT.on HI.out.lo)
    have HI2 := Lib.hid hI
    have HBZ := Lib.hid ((ButS.of hby).trans hbz)
    clear hI hbz hT hby HC
    go_wp2_with fail
    go_returns
    exact ⟨rfl, HI2.out, HBZ.out⟩
end Go.Proofs.Ytcnkljbckpkgcaa
