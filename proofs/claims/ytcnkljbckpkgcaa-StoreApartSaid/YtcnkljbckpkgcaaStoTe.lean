/- The walk over tell: a store, and the document's, are told something, and what was handed in is spoilt behind. Bounds on the lengths. -/
import Derived.Test.YtcnkljbckpkgcaaStoDS
import Derived.Test.YtcnkljbckpkgcaaStoT
import Derived.Test.YtcnkljbckpkgcaaStoF
import Derived.Test.YtcnkljbckpkgcaaStoK
import Derived.Test.YtcnkljbckpkgcaaRelC
import Derived.Deep.CutRange
import Derived.Deep.CutBlock
set_option linter.unusedVariables false
set_option linter.unusedSimpArgs false
namespace Go.Proofs.Ytcnkljbckpkgcaa
open Go.RowKit Go.Maps Go.Sort

/-- The blocks of these two rows. -/
def Yb (v7 v8 : Value) (b : Nat) : Prop := (∃ o s n c, v7 = .slice (some ⟨b, o, s⟩) n c) ∨ ∃ o s n c, v8 = .slice (some ⟨b, o, s⟩) n c
theorem DocI.apart {X : Nat → Prop} {w : World} {xb : Nat} {y : Sto} {G : List (Txt × List Nd)} (h : DocI X w xb y G) {b o : Nat} {v : Value} (hc : w.cell? ⟨b, o, none⟩ = some v) (hv : plainV v = true) : b ≠ xb := by
  rintro rfl
  obtain ⟨vv, va, vf, h1, h2, h3, h4⟩ := h.blk
  obtain ⟨_, _, rfl⟩ := h2.form
  obtain ⟨_, _, rfl⟩ := h3.form
  obtain ⟨_, _, rfl⟩ := h4.form
  rw [h1.cell] at hc
  rcases o with _ | _ | _ | o
  · simp at hc; subst hc; cases hv
  · simp at hc; subst hc; cases hv
  · simp at hc; subst hc; cases hv
  · simp at hc
theorem RdL.but {α : Type} {enc : α → List Value} {sz : Nat} {w w' : World} {A : Option Addr} {l : List α} (h : RdL w sz enc A l) {g : Nat} (hb : But g w w') (hn : ∀ b o, A = some ⟨b, o, none⟩ → 0 < l.length → b ≠ g) : RdL w' sz enc A l := by
  intro k hk
  obtain ⟨b, o, rfl, hlt, hcell⟩ := h k hk
  have hne := hn b o rfl (by omega)
  exact ⟨b, o, rfl, Nat.lt_of_lt_of_le hlt hb.size, fun j u hu => hb.cell (hcell j u hu) hne⟩
/-- All that stands while a store and the document's are told something. -/
structure TeI (Y : Nat → Prop) (B : Nat) (w : World) (st vb fb N xb gd : Nat) (x : Sto) (F : List (Txt × List Nd)) (y : Sto) (G : List (Txt × List Nd)) (d : DoD) (v7 v8 vl vp : Value) : Prop where
  sto : StI Y w st vb fb N x F
  doc : DocI Y w xb y G
  box : Blk w gd 40 #[.int .i64 d.kind, .string ⟨d.name.toArray⟩, vl, .bool d.has, vp]
  l : TxR w vl d.l
  p : SlRd w vp d.p
  m : OwnT w B v7 d.l
  q : OwnN w B v8 d.p
section
variable {Y : Nat → Prop} {B : Nat} {w w' : World} {st vb fb N xb gd : Nat} {x : Sto} {F : List (Txt × List Nd)} {y : Sto} {G : List (Txt × List Nd)} {d : DoD} {v7 v8 vl vp : Value}
theorem TeI.below (h : TeI Y B w st vb fb N xb gd x F y G d v7 v8 vl vp) (hb : Below w.heap.size w w') : TeI Y B w' st vb fb N xb gd x F y G d v7 v8 vl vp :=
  ⟨h.sto.below hb, h.doc.below hb, h.box.below hb, h.l.below hb, h.p.below hb, h.m.below hb, h.q.below hb⟩
theorem TeI.told (h : TeI Y B w st vb fb N xb gd x F y G d v7 v8 vl vp) {M : Nat} {x' : Sto} {F' : List (Txt × List Nd)} (hs : StI Y w' st vb fb M x' F') (hb : ButS [st, vb, fb] w w') : TeI Y B w' st vb fb M xb gd x' F' y G d v7 v8 vl vp :=
  ⟨hs, h.doc.butS h.sto.s hb, hb.blk h.box (h.sto.s.apart (h.box.cell 0) rfl), h.l.butS h.sto.s hb, h.p.butS h.sto.s hb, h.m.butS h.sto.s hb, h.q.butS h.sto.s hb⟩
theorem TeI.docd (h : TeI Y B w st vb fb N xb gd x F y G d v7 v8 vl vp) {y' : Sto} {G' : List (Txt × List Nd)} (hs : DocI Y w' xb y' G') (hb : But xb w w') : TeI Y B w' st vb fb N xb gd x F y' G' d v7 v8 vl vp := by
  refine ⟨h.sto.doc h.doc hb, hs, hb.blk h.box (h.doc.apart (h.box.cell 0) rfl), ?_, ?_, ?_, ?_⟩
  · obtain ⟨A, c, h1, h2, h3⟩ := h.l
    refine ⟨A, c, h1, h2.but hb ?_, h3⟩
    rintro b o rfl hl
    exact h.doc.apart ((h2.at_ hl).2 0 _ rfl) rfl
  · obtain ⟨A, c, h1, h2, h3⟩ := h.p
    refine ⟨A, c, h1, h2.but hb ?_, h3⟩
    rintro b o rfl hl
    exact h.doc.apart ((h2.at_ hl).2 0 _ rfl) rfl
  · obtain ⟨vv, va, vf, q1, _⟩ := h.doc.blk
    obtain ⟨A, c, h1, h2⟩ := h.m
    exact ⟨A, c, h1, own_blk h2 hb q1 (by decide)⟩
  · obtain ⟨vv, va, vf, q1, _⟩ := h.doc.blk
    obtain ⟨A, c, h1, h2⟩ := h.q
    exact ⟨A, c, h1, own_blk h2 hb q1 (by decide)⟩
end
/-- Behind it: what was handed in is being spoilt. -/
structure SpI (Y : Nat → Prop) (w0 w : World) (st vb fb N xb : Nat) (x : Sto) (F : List (Txt × List Nd)) (y : Sto) (G : List (Txt × List Nd)) (v7 v8 : Value) (nl np : Nat) : Prop where
  sto : StI Y w st vb fb N x F
  doc : DocI Y w xb y G
  m : ∃ xs, w.ownsRow w0.heap.size 9 1 v7 nl xs
  q : ∃ xs, w.ownsRow w0.heap.size 58 5 v8 np xs
  fr : ButS [st, vb, fb, xb] w0 w
def TellRet (st vb fb N xb : Nat) (x : Sto) (F : List (Txt × List Nd)) (y : Sto) (G : List (Txt × List Nd)) (d : DoD) (w : World) (e : Ending) (w' : World) : Prop :=
  ∃ b : Bool, e = .returned (.bool b) ∧ StI X0 w' st vb fb (N + 1) (doS x d) (doF F d) ∧ ButS [st, vb, fb, xb] w w' ∧ (y = x → G = F → b = true ∧ DocI X0 w' xb (doS x d) (doF F d))
section
variable {Y : Nat → Prop} {w0 w w' : World} {st vb fb N xb : Nat} {x : Sto} {F : List (Txt × List Nd)} {y : Sto} {G : List (Txt × List Nd)} {v7 v8 : Value} {nl np : Nat}
theorem SpI.spoil (h : SpI Y w0 w st vb fb N xb x F y G v7 v8 nl np) (hY : ∀ b, Y b → w0.heap.size ≤ b) (hst : st < w0.heap.size ∧ vb < w0.heap.size ∧ fb < w0.heap.size ∧ xb < w0.heap.size) {g j : Nat} {u : Value} (hg : Y g) (hm : ∃ xs, (w.setCell ⟨g, j, none⟩ u).ownsRow w0.heap.size 9 1 v7 nl xs) (hq : ∃ xs, (w.setCell ⟨g, j, none⟩ u).ownsRow w0.heap.size 58 5 v8 np xs) : SpI Y w0 (w.setCell ⟨g, j, none⟩ u) st vb fb N xb x F y G v7 v8 nl np := by
  have hb := But.set (B := g) w j u
  have hx : ButX Y w (w.setCell ⟨g, j, none⟩ u) := ButX.ofBut hb hg
  have hn : ∀ k, k < w0.heap.size → ¬ Y k := fun k hk hy => absurd (hY k hy) (Nat.not_le.2 hk)
  exact ⟨h.sto.butX hx (hn _ hst.1) (hn _ hst.2.1) (hn _ hst.2.2.1), h.doc.butX hx (hn _ hst.2.2.2), hm, hq, h.fr.of2 (hb.below (hY g hg) h.fr.size)⟩
end
theorem own_cell {w : World} {B : Nat} {e : TypeId} {sz n : Nat} {v : Value} {xs : List Value} (h : w.ownsRow B e sz v n xs) (hn : 0 < n) : ∃ g c, v = .slice (some ⟨g, 0, none⟩) n c ∧ (∀ j, j < n * sz → ∃ u, w.cell? ⟨g, j, none⟩ = some u) ∧ (∀ j, w.frozen? ⟨g, j, none⟩ = false) ∧ (∀ j u, (w.setCell ⟨g, j, none⟩ u).ownsRow B e sz v n (xs.set j u)) ∧ ∃ cs, Blk w g e cs := by
  have hl := h.1
  rcases h.2 with ⟨_, h0⟩ | ⟨g, cap, cur, rfl, hb, hg, rest⟩
  · omega
  · refine ⟨g, cap, rfl, fun j hj => ?_, fun j => h.frozenAt j, fun j u => (h.stored j u).1, cur, hg⟩
    have := h.cellAt j hj
    rw [List.getElem?_eq_getElem (by rw [hl]; exact hj)] at this
    exact ⟨_, this⟩
theorem StI.lt3 {X : Nat → Prop} {w : World} {st vb fb N : Nat} {x : Sto} {F : List (Txt × List Nd)} (h : StI X w st vb fb N x F) : w.heap.size ≤ w.heap.size := Nat.le_refl _
theorem doS1 {x : Sto} {d : DoD} (h : d.kind = 1) : doS x d = setS x d.name d.l := by unfold doS; rw [if_pos h]
theorem doS2 {x : Sto} {d : DoD} (h : d.kind = 2) : doS x d = unsetS x d.name := by unfold doS; rw [h]; rfl
theorem doS3 {x : Sto} {d : DoD} (h : d.kind = 3) : doS x d = swapS x d.name d.has d.l := by unfold doS; rw [h]; rfl
theorem doS4 {x : Sto} {d : DoD} (h : d.kind = 4) : doS x d = ⟨x.vars, d.l⟩ := by unfold doS; rw [h]; rfl
theorem doS5 {x : Sto} {d : DoD} (h1 : d.kind ≠ 1) (h2 : d.kind ≠ 2) (h3 : d.kind ≠ 3) (h4 : d.kind ≠ 4) : doS x d = x := by unfold doS; rw [if_neg h1, if_neg h2, if_neg h3, if_neg h4]
theorem doF0 {F : List (Txt × List Nd)} {d : DoD} (h : d.kind = 1 ∨ d.kind = 2 ∨ d.kind = 3 ∨ d.kind = 4) : doF F d = F := by unfold doF; rw [if_pos h]
theorem doF5 {F : List (Txt × List Nd)} {d : DoD} (h1 : d.kind ≠ 1) (h2 : d.kind ≠ 2) (h3 : d.kind ≠ 3) (h4 : d.kind ≠ 4) : doF F d = putA d.name d.p F := by
  unfold doF
  rw [if_neg]
  rintro (h | h | h | h)
  · exact h1 h
  · exact h2 h
  · exact h3 h
  · exact h4 h
/-- All that is small. -/
structure SmT (x : Sto) (F : List (Txt × List Nd)) (y : Sto) (G : List (Txt × List Nd)) (d : DoD) (N : Nat) : Prop where
  sx : SmS x
  sy : SmS y
  n : N ≤ 1000000
  v : y.vars.length ≤ 100000
  g : G.length ≤ 100000
  l : d.l.length ≤ 1000000
  p : d.p.length ≤ 1000000
  k : d.name.length ≤ maxLen
/-- The state behind the switch. -/
def MidI (Y : Nat → Prop) (w : World) (st vb fb N xb gd : Nat) (x : Sto) (F : List (Txt × List Nd)) (y : Sto) (G : List (Txt × List Nd)) (d : DoD) (v7 v8 vl vp : Value) (wx : World) : Prop :=
  TeI Y w.heap.size wx st vb fb (N + 1) xb gd (doS x d) (doF F d) (doS y d) (doF G d) d v7 v8 vl vp ∧ ButS [st, vb, fb, xb] w wx
set_option maxRecDepth 100000 in
set_option maxHeartbeats 8000000 in
theorem tell_any (st vb fb xb N : Nat) (x : Sto) (F : List (Txt × List Nd)) (y : Sto) (G : List (Txt × List Nd)) (d : DoD) (vl vp : Value) (w : World) (h : StI X0 w st vb fb N x F) (hd : DocI X0 w xb y G) (hs : SmT x F y G d N) (hl : TxR w vl d.l) (hp : SlRd w vp d.p) :
    Calls Try.prog 10 #[.pointer (some ⟨st, 0, none⟩), .pointer (some ⟨xb, 0, none⟩), .agg #[.int .i64 d.kind, .string ⟨d.name.toArray⟩, vl, .bool d.has, vp]] w (TellRet st vb fb N xb x F y G d w) := by
  have HL := Lib.hid hl
  have HP := Lib.hid hp
  obtain ⟨Al, cl, rfl, -⟩ := hl
  obtain ⟨Ap, cp, rfl, -⟩ := hp
  obtain ⟨dk, hdk⟩ : ∃ dk, dk = d.kind := ⟨_, rfl⟩
  obtain ⟨nl, hnl⟩ : ∃ nl, nl = d.l.length := ⟨_, rfl⟩
  obtain ⟨np, hnp⟩ : ∃ np, np = d.p.length := ⟨_, rfl⟩
  rw [← hnl, ← hnp, ← hdk]
  rw [← hnl] at HL
  rw [← hnp] at HP
  have HNL := Lib.hid hnl
  have HNP := Lib.hid hnp
  have HDK := Lib.hid hdk
  clear hnl hnp hdk
  obtain ⟨w1, hw1⟩ : ∃ w1, w1 = w.alloc (.cells #[.int .i64 dk, .string ⟨d.name.toArray⟩, .slice Al nl cl, .bool d.has, .slice Ap np cp] 40) := ⟨_, rfl⟩
  have hb1 : Below w.heap.size w w1 := by rw [hw1]; exact fst_below _
  have HQ := Lib.hid (show Blk w1 w.heap.size 40 #[.int .i64 dk, .string ⟨d.name.toArray⟩, .slice Al nl cl, .bool d.has, .slice Ap np cp] from by rw [hw1]; exact Blk.new _ _ _)
  have HI := Lib.hid h
  have HD := Lib.hid hd
  have HS := Lib.hid hs
  have HLT := Lib.hid (show st < w.heap.size ∧ vb < w.heap.size ∧ fb < w.heap.size ∧ xb < w.heap.size from ⟨let ⟨_, q, _⟩ := h.blk; q.lt, h.vars.lt, h.funs.lt, hd.lt⟩)
  have HT := Lib.hid (textsS_any (.slice Al nl cl) d.l w1 (HL.out.below hb1) hs.l)
  have HB1 := Lib.hid hb1
  have HW1 := Lib.hid hw1
  have c2 := HQ.out.cell 2
  simp only [List.getElem?_toArray, List.getElem?_cons_succ, List.getElem?_cons_zero] at c2
  clear h hd hs hb1 hw1
  go_enter Try.func10, Try.ntmps10
  go_upto_region 1 with (fail)
  rw [← HW1.out]
  go_wp2_with fail
  refine HT.out.mono ?_
  rintro e w2 ⟨v7, rfl, h7, hb2⟩
  have H7 := Lib.hid (h7.mono HB1.out.size)
  have HNN := Lib.hid (nodesS_any (.slice Ap np cp) d.p w2 ((HP.out.below HB1.out).below hb2) (Nat.le_trans HS.out.p (by decide)))
  have HB2 := Lib.hid (HB1.out.trans (hb2.mono HB1.out.size))
  have c4 := (HQ.out.below hb2).cell 4
  simp only [List.getElem?_toArray, List.getElem?_cons_succ, List.getElem?_cons_zero] at c4
  obtain ⟨A7, c7, rfl, -⟩ := h7
  rw [← HNL.out] at H7 ⊢
  have HQ2 := Lib.hid (HQ.out.below hb2)
  clear hb2 HT c2 HQ
  go_wp2_with fail
  refine HNN.out.mono ?_
  rintro e w3 ⟨v8, rfl, h8, hb3⟩
  have HB3 := Lib.hid (HB2.out.trans (hb3.mono HB2.out.size))
  have HY := Lib.hid (show ∀ b, Yb (.slice A7 nl c7) v8 b → w.heap.size ≤ b ∧ b < w3.heap.size from by
    rintro b (⟨o, s, n, c, he⟩ | ⟨o, s, n, c, he⟩)
    · obtain ⟨A, c', h1, h2⟩ := H7.out
      obtain ⟨h3, h4⟩ := own_apt h2 b o s n c (h1.symm.trans he)
      exact ⟨h3, Nat.lt_of_lt_of_le h4 hb3.size⟩
    · obtain ⟨A, c', h1, h2⟩ := h8
      obtain ⟨h3, h4⟩ := own_apt h2 b o s n c (h1.symm.trans he)
      exact ⟨Nat.le_trans HB2.out.size h3, h4⟩)
  have HT3 := Lib.hid (show TeI (Yb (.slice A7 nl c7) v8) w.heap.size w3 st vb fb N xb w.heap.size x F y G d (.slice A7 nl c7) v8 (.slice Al nl cl) (.slice Ap np cp) from
    ⟨HI.out.new HB3.out HY.out, HD.out.new HB3.out HY.out, by rw [← HDK.out]; exact HQ2.out.below hb3, HL.out.below HB3.out, HP.out.below HB3.out, H7.out.below hb3, h8.mono HB2.out.size⟩)
  have HF3 := Lib.hid (ButS.of (S := [st, vb, fb, xb]) HB3.out)
  obtain ⟨A8, c8, rfl, -⟩ := h8
  rw [← HNP.out] at HT3 HY ⊢
  clear hb3 HNN c4 H7 HQ2 HL HP HB1 HW1 HI HD HB2
  have c0 := HT3.out.box.cell 0
  simp only [List.getElem?_toArray, List.getElem?_cons_succ, List.getElem?_cons_zero] at c0
  rw [← HDK.out] at c0
  go_upto_block 0 with (fail)
  go_cut [9] from 9 to 125 (fun v wx => MidI (Yb (.slice A7 nl c7) (.slice A8 np c8)) w st vb fb N xb w.heap.size x F y G d (.slice A7 nl c7) (.slice A8 np c8) (.slice Al nl cl) (.slice Ap np cp) wx)
  case first =>
    by_cases h1 : dk = 1
    · subst h1
      have HXS := Lib.hid (doS1 (x := x) HDK.out.symm)
      have HYS := Lib.hid (doS1 (x := y) HDK.out.symm)
      have HXF := Lib.hid (doF0 (F := F) (.inl HDK.out.symm))
      have HYF := Lib.hid (doF0 (F := G) (.inl HDK.out.symm))
      have c1 := HT3.out.box.cell 1
      simp only [List.getElem?_toArray, List.getElem?_cons_succ, List.getElem?_cons_zero] at c1
      have l1 := Later.cell c1
      have HSW := Lib.hid (fun (W : World) (hW : Below w3.heap.size w3 W) => set_any st vb fb N x F d.name (.slice A7 nl c7) d.l W (HT3.out.sto.below hW) HS.out.n HS.out.k (HT3.out.m.rd.below hW) HS.out.l)
      go_upto_region 7 with (fail)
      clear c0 c1
      refine wp_region_mid 6 _ rfl rfl (by kernel_rfl) (by kernel_rfl) (by kernel_rfl) ?_
      apply EqGo.run
      focus
        kernel_rfl
      focus
        intro x K hK
        go_wp2_with fail
        first | exact hK x (Below.refl _ _) | exact Below.refl _ _
      simp only [Act.put, List.setIfInBounds_toArray, List.set_cons_succ, List.set_cons_zero]
      apply EqGo.run
      focus
        kernel_rfl
      focus
        intro x K hK
        go_wp2_with fail
        first | exact hK x (Below.refl _ _) | exact Below.refl _ _
      simp only [Act.put, List.setIfInBounds_toArray, List.set_cons_succ, List.set_cons_zero]
      apply EqGo.run
      focus
        kernel_rfl
      focus
        intro x K hK
        go_wp2_with fail
        first | exact hK x (Below.refl _ _) | exact Below.refl _ _
      simp only [Act.put, List.setIfInBounds_toArray, List.set_cons_succ, List.set_cons_zero]
      apply EqGo.run
      focus
        kernel_rfl
      focus
        intro x K hK
        go_wp2_with fail
        first | exact hK x (Below.refl _ _) | exact Below.refl _ _
      simp only [Act.put, List.setIfInBounds_toArray, List.set_cons_succ, List.set_cons_zero]
      apply EqGo.run
      focus
        kernel_rfl
      focus
        intro x K hK
        go_wp2_with fail
        first | exact hK x (Below.refl _ _) | exact Below.refl _ _
      simp only [Act.put, List.setIfInBounds_toArray, List.set_cons_succ, List.set_cons_zero]
      apply EqGo.run
      focus
        kernel_rfl
      focus
        intro x K hK
        go_wp2_with fail
        first | exact hK x (Below.refl _ _) | exact Below.refl _ _
      simp only [Act.put, List.setIfInBounds_toArray, List.set_cons_succ, List.set_cons_zero]
      intro z K hK
      have HSY := Lib.hid (HSW.out z.val z.below)
      have HTY := Lib.hid (HT3.out.below z.below)
      have HFY := Lib.hid (HF3.out.trans (ButS.of z.below))
      clear HSW HT3 l1 HF3
      go_wp2_with fail
      refine HSY.out.mono ?_
      rintro e w5 ⟨rfl, hI5, hb5⟩
      have HT5 := Lib.hid (HTY.out.told hI5 hb5)
      have HF5 := Lib.hid (HFY.out.trans (hb5.mono (T := [st, vb, fb, xb]) (by simp +contextual)))
      clear hI5 hb5 HSY HTY HFY
      refine hK _ _ ?_
      clear hK K
      intro z2
      replace HT5 := Lib.hid (HT5.out.below z2.below)
      replace HF5 := Lib.hid (HF5.out.trans (ButS.of z2.below))
      generalize z2.val = w6 at *
      clear z2
      have c1 := HT5.out.box.cell 1
      have c2 := HT5.out.box.cell 2
      simp only [List.getElem?_toArray, List.getElem?_cons_succ, List.getElem?_cons_zero] at c1 c2
      have HDS := Lib.hid (dset_any xb y G d.name (.slice Al nl cl) d.l w6 HT5.out.doc HT5.out.l HS.out.v HS.out.l)
      go_wp2_with fail
      refine HDS.out.mono ?_
      rintro e w7 ⟨rfl, hI7, hb7⟩
      have HT7 := Lib.hid (HT5.out.docd hI7 hb7)
      have HF7 := Lib.hid (HF5.out.trans (ButS.ofBut hb7 (S := [st, vb, fb, xb]) (by simp)))
      clear hI7 hb7 HDS HT5 HF5 c1 c2
      go_wp2_with fail
      go_meet
      exact ⟨by rw [HXS.out, HYS.out, HXF.out, HYF.out]; exact HT7.out, HF7.out⟩
    · have b1 : (dk == 1) = false := by simpa using h1
      by_cases h2 : dk = 2
      · subst h2
        have HXS := Lib.hid (doS2 (x := x) HDK.out.symm)
        have HYS := Lib.hid (doS2 (x := y) HDK.out.symm)
        have HXF := Lib.hid (doF0 (F := F) (.inr (.inl HDK.out.symm)))
        have HYF := Lib.hid (doF0 (F := G) (.inr (.inl HDK.out.symm)))
        have c1 := HT3.out.box.cell 1
        have c3 := HT3.out.box.cell 3
        simp only [List.getElem?_toArray, List.getElem?_cons_succ, List.getElem?_cons_zero] at c1 c3
        have l1 := Later.cell c1
        have l3 := Later.cell c3
        have HSW := Lib.hid (fun (W : World) (hW : Below w3.heap.size w3 W) => unset_any st vb fb N x F d.name W (HT3.out.sto.below hW) HS.out.k)
        go_upto_region 10 with (fail)
        clear c0 c1 c3
        refine wp_region_mid 5 _ rfl rfl (by kernel_rfl) (by kernel_rfl) (by kernel_rfl) ?_
        apply EqGo.run
        focus
          kernel_rfl
        focus
          intro x K hK
          go_wp2_with fail
          first | exact hK x (Below.refl _ _) | exact Below.refl _ _
        simp only [Act.put, List.setIfInBounds_toArray, List.set_cons_succ, List.set_cons_zero]
        apply EqGo.run
        focus
          kernel_rfl
        focus
          intro x K hK
          go_wp2_with fail
          first | exact hK x (Below.refl _ _) | exact Below.refl _ _
        simp only [Act.put, List.setIfInBounds_toArray, List.set_cons_succ, List.set_cons_zero]
        apply EqGo.run
        focus
          kernel_rfl
        focus
          intro x K hK
          go_wp2_with fail
          first | exact hK x (Below.refl _ _) | exact Below.refl _ _
        simp only [Act.put, List.setIfInBounds_toArray, List.set_cons_succ, List.set_cons_zero]
        apply EqGo.run
        focus
          kernel_rfl
        focus
          intro x K hK
          go_wp2_with fail
          first | exact hK x (Below.refl _ _) | exact Below.refl _ _
        simp only [Act.put, List.setIfInBounds_toArray, List.set_cons_succ, List.set_cons_zero]
        apply EqGo.run
        focus
          kernel_rfl
        focus
          intro x K hK
          go_wp2_with fail
          first | exact hK x (Below.refl _ _) | exact Below.refl _ _
        simp only [Act.put, List.setIfInBounds_toArray, List.set_cons_succ, List.set_cons_zero]
        intro z K hK
        have HSY := Lib.hid (HSW.out z.val z.below)
        have HTY := Lib.hid (HT3.out.below z.below)
        have HFY := Lib.hid (HF3.out.trans (ButS.of z.below))
        clear HSW HT3 l1 l3 HF3
        go_wp2_with fail
        refine HSY.out.mono ?_
        rintro e w5 ⟨rfl, hI5, hb5⟩
        have HT5 := Lib.hid (HTY.out.told (hI5.mono (Nat.le_succ N)) hb5)
        have HF5 := Lib.hid (HFY.out.trans (hb5.mono (T := [st, vb, fb, xb]) (by simp +contextual)))
        clear hI5 hb5 HSY HTY HFY
        refine hK _ _ ?_
        clear hK K
        intro z2
        replace HT5 := Lib.hid (HT5.out.below z2.below)
        replace HF5 := Lib.hid (HF5.out.trans (ButS.of z2.below))
        generalize z2.val = w6 at *
        clear z2
        have c1 := HT5.out.box.cell 1
        simp only [List.getElem?_toArray, List.getElem?_cons_succ, List.getElem?_cons_zero] at c1
        have HDS := Lib.hid (dunset_any xb y G d.name w6 HT5.out.doc (Nat.le_trans HS.out.v (by decide)))
        go_wp2_with fail
        refine HDS.out.mono ?_
        rintro e w7 ⟨rfl, hI7, hb7⟩
        have HT7 := Lib.hid (HT5.out.docd hI7 hb7)
        have HF7 := Lib.hid (HF5.out.trans (ButS.ofBut hb7 (S := [st, vb, fb, xb]) (by simp)))
        clear hI7 hb7 HDS HT5 HF5 c1
        go_wp2_with fail
        go_meet
        exact ⟨by rw [HXS.out, HYS.out, HXF.out, HYF.out]; exact HT7.out, HF7.out⟩
      · have b2 : (dk == 2) = false := by simpa using h2
        by_cases h3 : dk = 3
        · subst h3
          have HXS := Lib.hid (doS3 (x := x) HDK.out.symm)
          have HYS := Lib.hid (doS3 (x := y) HDK.out.symm)
          have HXF := Lib.hid (doF0 (F := F) (.inr (.inr (.inl HDK.out.symm))))
          have HYF := Lib.hid (doF0 (F := G) (.inr (.inr (.inl HDK.out.symm))))
          have c1 := HT3.out.box.cell 1
          have c3 := HT3.out.box.cell 3
          simp only [List.getElem?_toArray, List.getElem?_cons_succ, List.getElem?_cons_zero] at c1 c3
          have l1 := Later.cell c1
          have l3 := Later.cell c3
          have HSW := Lib.hid (fun (W : World) (hW : Below w3.heap.size w3 W) => swap_any st vb fb N x F d.name d.has (.slice A7 nl c7) d.l W (HT3.out.sto.below hW) HS.out.sx HS.out.n HS.out.k (HT3.out.m.rd.below hW) HS.out.l)
          go_upto_region 13 with (fail)
          clear c0 c1 c3
          refine wp_region_mid 8 _ rfl rfl (by kernel_rfl) (by kernel_rfl) (by kernel_rfl) ?_
          apply EqGo.run
          focus
            kernel_rfl
          focus
            intro x K hK
            go_wp2_with fail
            first | exact hK x (Below.refl _ _) | exact Below.refl _ _
          simp only [Act.put, List.setIfInBounds_toArray, List.set_cons_succ, List.set_cons_zero]
          apply EqGo.run
          focus
            kernel_rfl
          focus
            intro x K hK
            go_wp2_with fail
            first | exact hK x (Below.refl _ _) | exact Below.refl _ _
          simp only [Act.put, List.setIfInBounds_toArray, List.set_cons_succ, List.set_cons_zero]
          apply EqGo.run
          focus
            kernel_rfl
          focus
            intro x K hK
            go_wp2_with fail
            first | exact hK x (Below.refl _ _) | exact Below.refl _ _
          simp only [Act.put, List.setIfInBounds_toArray, List.set_cons_succ, List.set_cons_zero]
          apply EqGo.run
          focus
            kernel_rfl
          focus
            intro x K hK
            go_wp2_with fail
            first | exact hK x (Below.refl _ _) | exact Below.refl _ _
          simp only [Act.put, List.setIfInBounds_toArray, List.set_cons_succ, List.set_cons_zero]
          apply EqGo.run
          focus
            kernel_rfl
          focus
            intro x K hK
            go_wp2_with fail
            first | exact hK x (Below.refl _ _) | exact Below.refl _ _
          simp only [Act.put, List.setIfInBounds_toArray, List.set_cons_succ, List.set_cons_zero]
          apply EqGo.run
          focus
            kernel_rfl
          focus
            intro x K hK
            go_wp2_with fail
            first | exact hK x (Below.refl _ _) | exact Below.refl _ _
          simp only [Act.put, List.setIfInBounds_toArray, List.set_cons_succ, List.set_cons_zero]
          apply EqGo.run
          focus
            kernel_rfl
          focus
            intro x K hK
            go_wp2_with fail
            first | exact hK x (Below.refl _ _) | exact Below.refl _ _
          simp only [Act.put, List.setIfInBounds_toArray, List.set_cons_succ, List.set_cons_zero]
          apply EqGo.run
          focus
            kernel_rfl
          focus
            intro x K hK
            go_wp2_with fail
            first | exact hK x (Below.refl _ _) | exact Below.refl _ _
          simp only [Act.put, List.setIfInBounds_toArray, List.set_cons_succ, List.set_cons_zero]
          intro z K hK
          have HSY := Lib.hid (HSW.out z.val z.below)
          have HTY := Lib.hid (HT3.out.below z.below)
          have HFY := Lib.hid (HF3.out.trans (ButS.of z.below))
          clear HSW HT3 l1 l3 HF3
          go_wp2_with fail
          refine HSY.out.mono ?_
          rintro e w5 ⟨v5, rfl, h5, hI5, hb5⟩
          have HT5 := Lib.hid (HTY.out.told (hI5) hb5)
          have HF5 := Lib.hid (HFY.out.trans (hb5.mono (T := [st, vb, fb, xb]) (by simp +contextual)))
          have H5 := Lib.hid h5
          obtain ⟨A5, c5, rfl, -⟩ := h5
          clear hI5 hb5 HSY HTY HFY
          refine hK _ _ ?_
          clear hK K
          simp only [Act.put, List.setIfInBounds_toArray, List.set_cons_succ, List.set_cons_zero]
          apply EqGo.run
          focus
            kernel_rfl
          focus
            intro x K hK
            go_wp2_with fail
            first | exact hK x (Below.refl _ _) | exact Below.refl _ _
          simp only [Act.put, List.setIfInBounds_toArray, List.set_cons_succ, List.set_cons_zero]
          apply EqGo.run
          focus
            kernel_rfl
          focus
            intro x K hK
            go_wp2_with fail
            first | exact hK x (Below.refl _ _) | exact Below.refl _ _
          simp only [Act.put, List.setIfInBounds_toArray, List.set_cons_succ, List.set_cons_zero]
          apply EqGo.run
          focus
            kernel_rfl
          focus
            intro x K hK
            go_wp2_with fail
            first | exact hK x (Below.refl _ _) | exact Below.refl _ _
          simp only [Act.put, List.setIfInBounds_toArray, List.set_cons_succ, List.set_cons_zero]
          apply EqGo.run
          focus
            kernel_rfl
          focus
            intro x K hK
            go_wp2_with fail
            first | exact hK x (Below.refl _ _) | exact Below.refl _ _
          simp only [Act.put, List.setIfInBounds_toArray, List.set_cons_succ, List.set_cons_zero]
          apply EqGo.run
          focus
            kernel_rfl
          focus
            intro x K hK
            go_wp2_with fail
            first | exact hK x (Below.refl _ _) | exact Below.refl _ _
          simp only [Act.put, List.setIfInBounds_toArray, List.set_cons_succ, List.set_cons_zero]
          intro z2
          replace HT5 := Lib.hid (HT5.out.below z2.below)
          replace HF5 := Lib.hid (HF5.out.trans (ButS.of z2.below))
          replace H5 := Lib.hid (H5.out.below z2.below)
          generalize z2.val = w6 at *
          clear z2
          have HDG := Lib.hid (dget_any xb y G d.name w6 HT5.out.doc)
          obtain ⟨gx, hgx⟩ : ∃ g, g = getS x d.name := ⟨_, rfl⟩
          obtain ⟨gy, hgy⟩ : ∃ g, g = getS y d.name := ⟨_, rfl⟩
          rw [← hgx] at H5 ⊢
          rw [← hgy] at HDG
          have HGL := Lib.hid (show gx.1.length ≤ 1000000 ∧ gy.1.length ≤ 1000000 from by rw [hgx, hgy]; exact ⟨sm_get7 HS.out.sx _, sm_get7 HS.out.sy _⟩)
          have HGE := Lib.hid (show y = x → gy = gx from fun h => by rw [hgx, hgy, h])
          clear hgx hgy
          have c1 := HT5.out.box.cell 1
          simp only [List.getElem?_toArray, List.getElem?_cons_succ, List.getElem?_cons_zero] at c1
          go_wp2_with fail
          refine HDG.out.mono ?_
          rintro e w7 ⟨v7, rfl, h7, hb7⟩
          replace HT5 := Lib.hid (HT5.out.below hb7)
          replace HF5 := Lib.hid (HF5.out.trans (ButS.of hb7))
          have HST := Lib.hid (sametxt_v (.slice A5 gx.1.length c5) v7 gx.1 gy.1 w7 (H5.out.below hb7).rd h7.rd HGL.out.1 HGL.out.2)
          obtain ⟨A9, c9, rfl⟩ := h7.form
          clear hb7 h7 H5 HDG c1 HGL
          by_cases hg2 : gx.2 = gy.2
          · have hg2' : (gx.2 != gy.2) = false := by rw [hg2]; simp
            by_cases hg1 : gx.1 = gy.1
            · rw [decide_eq_true hg1] at HST
              clear hg1 HGE
              go_wp2_with fail
              refine HST.out.mono ?_
              rintro e w8 ⟨rfl, hb8⟩
              replace HT5 := Lib.hid (HT5.out.below hb8)
              replace HF5 := Lib.hid (HF5.out.trans (ButS.of hb8))
              clear hb8 HST
              have c1 := HT5.out.box.cell 1
              have c2 := HT5.out.box.cell 2
              have c3 := HT5.out.box.cell 3
              simp only [List.getElem?_toArray, List.getElem?_cons_succ, List.getElem?_cons_zero] at c1 c2 c3
              rcases Bool.eq_false_or_eq_true d.has with hh | hh
              · rw [hh] at c3
                replace HYS := Lib.hid (HYS.out.trans (show swapS y d.name d.has d.l = setS y d.name d.l by unfold swapS; rw [if_pos hh]))
                clear hh
                have HDS := Lib.hid (dset_any xb y G d.name (.slice Al nl cl) d.l w8 HT5.out.doc HT5.out.l HS.out.v HS.out.l)
                go_wp2_with fail
                refine HDS.out.mono ?_
                rintro e w7 ⟨rfl, hI7, hb7⟩
                have HT7 := Lib.hid (HT5.out.docd hI7 hb7)
                have HF7 := Lib.hid (HF5.out.trans (ButS.ofBut hb7 (S := [st, vb, fb, xb]) (by simp)))
                clear hI7 hb7 HDS HT5 HF5 c1 c2 c3
                go_wp2_with fail
                go_meet
                exact ⟨by rw [HXS.out, HYS.out, HXF.out, HYF.out]; exact HT7.out, HF7.out⟩
              · rw [hh] at c3
                replace HYS := Lib.hid (HYS.out.trans (show swapS y d.name d.has d.l = unsetS y d.name by unfold swapS; rw [if_neg (by rw [hh]; exact Bool.false_ne_true)]))
                clear hh
                have HDS := Lib.hid (dunset_any xb y G d.name w8 HT5.out.doc (Nat.le_trans HS.out.v (by decide)))
                go_wp2_with fail
                refine HDS.out.mono ?_
                rintro e w7 ⟨rfl, hI7, hb7⟩
                have HT7 := Lib.hid (HT5.out.docd hI7 hb7)
                have HF7 := Lib.hid (HF5.out.trans (ButS.ofBut hb7 (S := [st, vb, fb, xb]) (by simp)))
                clear hI7 hb7 HDS HT5 HF5 c1 c2 c3
                go_wp2_with fail
                go_meet
                exact ⟨by rw [HXS.out, HYS.out, HXF.out, HYF.out]; exact HT7.out, HF7.out⟩
            · have HNE := Lib.hid (show ¬ y = x from fun h => hg1 (by rw [HGE.out h]))
              rw [decide_eq_false hg1] at HST
              clear hg1 HGE
              go_wp2_with fail
              refine HST.out.mono ?_
              rintro e w8 ⟨rfl, hb8⟩
              replace HT5 := Lib.hid (HT5.out.below hb8)
              replace HF5 := Lib.hid (HF5.out.trans (ButS.of hb8))
              clear hb8 HST
              go_wp2_with fail
              go_ret
              exact ⟨false, rfl, by rw [HXS.out, HXF.out]; exact HT5.out.sto.new (Below.refl _ _) (fun b h => h.elim), HF5.out, fun h => absurd h HNE.out⟩
          · have hg2' : (gx.2 != gy.2) = true := by simpa using hg2
            have HNE := Lib.hid (show ¬ y = x from fun h => hg2 (by rw [HGE.out h]))
            clear hg2 HGE HST
            obtain ⟨g1, p1⟩ := gx
            obtain ⟨g2, p2⟩ := gy
            simp only at hg2' ⊢
            cases p1
            all_goals cases p2
            all_goals first | (exfalso; revert hg2'; decide) | skip
            all_goals
              clear hg2'
              go_wp2_with fail
              go_ret
              exact ⟨false, rfl, by rw [HXS.out, HXF.out]; exact HT5.out.sto.new (Below.refl _ _) (fun b h => h.elim), HF5.out, fun h => absurd h HNE.out⟩
        · have b3 : (dk == 3) = false := by simpa using h3
          by_cases h4 : dk = 4
          · subst h4
            have HXS := Lib.hid (doS4 (x := x) HDK.out.symm)
            have HYS := Lib.hid (doS4 (x := y) HDK.out.symm)
            have HXF := Lib.hid (doF0 (F := F) (.inr (.inr (.inr HDK.out.symm))))
            have HYF := Lib.hid (doF0 (F := G) (.inr (.inr (.inr HDK.out.symm))))
            have HSW := Lib.hid (setargs_any st vb fb N x F (.slice A7 nl c7) d.l w3 HT3.out.sto HT3.out.m.rd HS.out.l)
            go_wp2_with fail
            refine HSW.out.mono ?_
            rintro e w5 ⟨v5, rfl, h5, hI5, hb5⟩
            have HT5 := Lib.hid (HT3.out.told (hI5.mono (Nat.le_succ N)) hb5)
            have HF5 := Lib.hid (HF3.out.trans (hb5.mono (T := [st, vb, fb, xb]) (by simp +contextual)))
            obtain ⟨vv, va, vf, hq, hqv, hqa, hqf⟩ := HT5.out.doc.blk
            have HSM := Lib.hid (sametxt_v v5 va x.args y.args w5 h5.rd hqa.rd HS.out.sx.args HS.out.sy.args)
            have d1 := hq.cell 1
            simp only [List.getElem?_toArray, List.getElem?_cons_succ, List.getElem?_cons_zero] at d1
            obtain ⟨Aa, ca, rfl⟩ := hqa.form
            obtain ⟨A5, c5, rfl⟩ := h5.form
            have HS5 := Lib.hid (Nat.le_trans HT3.out.sto.lt3 hb5.size)
            clear hI5 hb5 hq hqv hqf hqa h5 HSW HT3 HF3 c0
            by_cases hae : x.args = y.args
            · rw [decide_eq_true hae] at HSM
              clear hae
              go_wp2_with fail
              refine HSM.out.mono ?_
              rintro e w6 ⟨rfl, hb6⟩
              replace HT5 := Lib.hid (HT5.out.below hb6)
              replace HF5 := Lib.hid (HF5.out.trans (ButS.of hb6))
              have HS6 := Lib.hid (Nat.le_trans HS5.out hb6.size)
              clear hb6 HSM d1 HS5
              have HTX := Lib.hid (textsS_any (.slice Al nl cl) d.l w6 HT5.out.l HS.out.l)
              have c2 := HT5.out.box.cell 2
              simp only [List.getElem?_toArray, List.getElem?_cons_succ, List.getElem?_cons_zero] at c2
              go_wp2_with fail
              refine HTX.out.mono ?_
              rintro e w7 ⟨v9, rfl, h9, hb7⟩
              replace HT5 := Lib.hid (HT5.out.below hb7)
              replace HF5 := Lib.hid (HF5.out.trans (ButS.of hb7))
              have HO9 := Lib.hid (h9.ot (X := Yb (.slice A7 nl c7) (.slice A8 np c8)) (fun b hb => Nat.lt_of_lt_of_le (HY.out b hb).2 HS6.out))
              have HDA := Lib.hid (HT5.out.doc.setArgs HO9.out)
              have HT7 := Lib.hid (HT5.out.docd HDA.out.1 HDA.out.2)
              have HF7 := Lib.hid (HF5.out.trans (ButS.ofBut HDA.out.2 (S := [st, vb, fb, xb]) (by simp)))
              obtain ⟨vv, va, vf, hq, -⟩ := HT5.out.doc.blk
              have d1 := hq.cell 1
              have f1 := hq.frozen 1
              simp only [List.getElem?_toArray, List.getElem?_cons_succ, List.getElem?_cons_zero] at d1
              obtain ⟨A9, c9, rfl, -⟩ := h9
              clear hb7 HTX HT5 HF5 HO9 HDA hq c2
              go_wp2_with fail
              go_meet
              exact ⟨by rw [HXS.out, HYS.out, HXF.out, HYF.out]; exact HT7.out, HF7.out⟩
            · have HNE := Lib.hid (show ¬ y = x from fun h => hae (by rw [h]))
              rw [decide_eq_false hae] at HSM
              clear hae
              go_wp2_with fail
              refine HSM.out.mono ?_
              rintro e w6 ⟨rfl, hb6⟩
              replace HT5 := Lib.hid (HT5.out.below hb6)
              replace HF5 := Lib.hid (HF5.out.trans (ButS.of hb6))
              clear hb6 HSM d1
              go_wp2_with fail
              go_ret
              exact ⟨false, rfl, by rw [HXS.out, HXF.out]; exact HT5.out.sto.new (Below.refl _ _) (fun b h => h.elim), HF5.out, fun h => absurd h HNE.out⟩
          · have n1 : d.kind ≠ 1 := by rw [← HDK.out]; exact h1
            have n2 : d.kind ≠ 2 := by rw [← HDK.out]; exact h2
            have n3 : d.kind ≠ 3 := by rw [← HDK.out]; exact h3
            have n4 : d.kind ≠ 4 := by rw [← HDK.out]; exact h4
            have HXS := Lib.hid (doS5 (x := x) n1 n2 n3 n4)
            have HYS := Lib.hid (doS5 (x := y) n1 n2 n3 n4)
            have HXF := Lib.hid (doF5 (F := F) n1 n2 n3 n4)
            have HYF := Lib.hid (doF5 (F := G) n1 n2 n3 n4)
            have b4 : (dk == 4) = false := by simpa using h4
            clear n1 n2 n3 n4 h1 h2 h3 h4
            have c1 := HT3.out.box.cell 1
            have c3 := HT3.out.box.cell 3
            simp only [List.getElem?_toArray, List.getElem?_cons_succ, List.getElem?_cons_zero] at c1 c3
            have l1 := Later.cell c1
            have l3 := Later.cell c3
            have HSW := Lib.hid (fun (W : World) (hW : Below w3.heap.size w3 W) => setfun_any st vb fb N x F d.name (.slice A8 np c8) d.p W (HT3.out.sto.below hW) HS.out.n HS.out.k (HT3.out.q.rd.below hW) HS.out.p)
            go_upto_region 4 with (fail)
            clear c0 c1 c3
            refine wp_region_mid 6 _ rfl rfl (by kernel_rfl) (by kernel_rfl) (by kernel_rfl) ?_
            apply EqGo.run
            focus
              kernel_rfl
            focus
              intro x K hK
              go_wp2_with fail
              first | exact hK x (Below.refl _ _) | exact Below.refl _ _
            simp only [Act.put, List.setIfInBounds_toArray, List.set_cons_succ, List.set_cons_zero]
            apply EqGo.run
            focus
              kernel_rfl
            focus
              intro x K hK
              go_wp2_with fail
              first | exact hK x (Below.refl _ _) | exact Below.refl _ _
            simp only [Act.put, List.setIfInBounds_toArray, List.set_cons_succ, List.set_cons_zero]
            apply EqGo.run
            focus
              kernel_rfl
            focus
              intro x K hK
              go_wp2_with fail
              first | exact hK x (Below.refl _ _) | exact Below.refl _ _
            simp only [Act.put, List.setIfInBounds_toArray, List.set_cons_succ, List.set_cons_zero]
            apply EqGo.run
            focus
              kernel_rfl
            focus
              intro x K hK
              go_wp2_with fail
              first | exact hK x (Below.refl _ _) | exact Below.refl _ _
            simp only [Act.put, List.setIfInBounds_toArray, List.set_cons_succ, List.set_cons_zero]
            apply EqGo.run
            focus
              kernel_rfl
            focus
              intro x K hK
              go_wp2_with fail
              first | exact hK x (Below.refl _ _) | exact Below.refl _ _
            simp only [Act.put, List.setIfInBounds_toArray, List.set_cons_succ, List.set_cons_zero]
            apply EqGo.run
            focus
              kernel_rfl
            focus
              intro x K hK
              go_wp2_with fail
              first | exact hK x (Below.refl _ _) | exact Below.refl _ _
            simp only [Act.put, List.setIfInBounds_toArray, List.set_cons_succ, List.set_cons_zero]
            intro z K hK
            have HSY := Lib.hid (HSW.out z.val z.below)
            have HTY := Lib.hid (HT3.out.below z.below)
            have HFY := Lib.hid (HF3.out.trans (ButS.of z.below))
            clear HSW HT3 l1 l3 HF3
            go_wp2_with fail
            refine HSY.out.mono ?_
            rintro e w5 ⟨rfl, hI5, hb5⟩
            have HT5 := Lib.hid (HTY.out.told (hI5) hb5)
            have HF5 := Lib.hid (HFY.out.trans (hb5.mono (T := [st, vb, fb, xb]) (by simp +contextual)))
            clear hI5 hb5 HSY HTY HFY
            refine hK _ _ ?_
            clear hK K
            intro z2
            replace HT5 := Lib.hid (HT5.out.below z2.below)
            replace HF5 := Lib.hid (HF5.out.trans (ButS.of z2.below))
            generalize z2.val = w6 at *
            clear z2
            have c1 := HT5.out.box.cell 1
            have c4 := HT5.out.box.cell 4
            simp only [List.getElem?_toArray, List.getElem?_cons_succ, List.getElem?_cons_zero] at c1 c4
            have HDS := Lib.hid (dsetfun_any xb y G d.name (.slice Ap np cp) d.p w6 HT5.out.doc HT5.out.p HS.out.g (Nat.le_trans HS.out.p (by decide)))
            go_wp2_with fail
            refine HDS.out.mono ?_
            rintro e w7 ⟨rfl, hI7, hb7⟩
            have HT7 := Lib.hid (HT5.out.docd hI7 hb7)
            have HF7 := Lib.hid (HF5.out.trans (ButS.ofBut hb7 (S := [st, vb, fb, xb]) (by simp)))
            clear hI7 hb7 HDS HT5 HF5 c1 c4
            go_wp2_with fail
            go_meet
            exact ⟨by rw [HXS.out, HYS.out, HXF.out, HYF.out]; exact HT7.out, HF7.out⟩
  case rest =>
  obtain ⟨hT, hF⟩ := hcut
  have HST := Lib.hid (show st < w.heap.size ∧ vb < w.heap.size ∧ fb < w.heap.size ∧ xb < w.heap.size from HLT.out)
  have HSP := Lib.hid (show SpI (Yb (.slice A7 nl c7) (.slice A8 np c8)) w wc st vb fb (N + 1) xb (doS x d) (doF F d) (doS y d) (doF G d) (.slice A7 nl c7) (.slice A8 np c8) nl np from
    ⟨hT.sto, hT.doc, (let ⟨A, c, h1, h2⟩ := hT.m; ⟨_, by rw [← HNL.out] at h1 h2; rw [h1]; exact h2⟩), (let ⟨A, c, h1, h2⟩ := hT.q; ⟨_, by rw [← HNP.out] at h1 h2; rw [h1]; exact h2⟩), hF⟩)
  have HDS := Lib.hid (show y = x → G = F → doS y d = doS x d ∧ doF G d = doF F d from fun h1 h2 => ⟨by rw [h1], by rw [h2]⟩)
  clear hT hF HT3 HF3 c0
  have hnl6 : nl ≤ 1000000 := by rw [HNL.out]; exact HS.out.l
  have hnp6 : np ≤ 1000000 := by rw [HNP.out]; exact HS.out.p
  go_wp2_with fail
  go_loopw [14] (fun i wr => ∃ k : Nat, k ≤ nl ∧ i = .int .i64 k ∧ Hid (SpI (Yb (.slice A7 nl c7) (.slice A8 np c8)) w wr st vb fb (N + 1) xb (doS x d) (doF F d) (doS y d) (doF G d) (.slice A7 nl c7) (.slice A8 np c8) nl np)) (fun i _ => nl - (intOf i).toNat)
  case atStart => exact ⟨0, Nat.zero_le _, rfl, HSP⟩
  case round =>
    obtain ⟨k, hk, rfl, HK⟩ := hrel
    clear HSP
    by_cases hlt : k < nl
    · obtain ⟨xs, hm⟩ := HK.out.m
      obtain ⟨g, c, he, hcell, hfro, hset, cs, hblk⟩ := own_cell hm (by omega)
      injection he with he1 _ he3
      subst he1
      clear he3
      obtain ⟨u0, hu⟩ := hcell k (by omega)
      have fk := hfro k
      have HN := Lib.hid (show SpI (Yb (.slice (some ⟨g, 0, none⟩) nl c7) (.slice A8 np c8)) w (wr.setCell ⟨g, k, none⟩ (.string ⟨#[115, 112, 111, 105, 108, 116]⟩)) st vb fb (N + 1) xb (doS x d) (doF F d) (doS y d) (doF G d) (.slice (some ⟨g, 0, none⟩) nl c7) (.slice A8 np c8) nl np from
        HK.out.spoil (fun b hb => (HY.out b hb).1) HST.out (.inl ⟨0, none, nl, c7, rfl⟩) ⟨_, hset k _⟩ (let ⟨ys, h⟩ := HK.out.q; ⟨ys, own_but h (But.set wr k _) hblk (by decide)⟩))
      clear hm hcell hfro hset hblk HK
      go_wp2_with fail
      go_roundw
      case rel => exact ⟨k + 1, by omega, by go_num, HN⟩
      case measure => simp [intOf]; omega
    · obtain rfl : k = nl := by omega
      go_wp2_with fail
      clear hlt
      go_loopw [15] (fun i wr => ∃ j : Nat, j ≤ np ∧ i = .int .i64 j ∧ Hid (SpI (Yb (.slice A7 k c7) (.slice A8 np c8)) w wr st vb fb (N + 1) xb (doS x d) (doF F d) (doS y d) (doF G d) (.slice A7 k c7) (.slice A8 np c8) k np)) (fun i _ => np - (intOf i).toNat)
      case atStart => exact ⟨0, Nat.zero_le _, rfl, HK⟩
      case round =>
        obtain ⟨j, hj, rfl, HJ⟩ := hrel
        clear HK
        generalize wr = wj at *
        by_cases hlt : j < np
        · obtain ⟨xs, hm⟩ := HJ.out.q
          obtain ⟨g, c, he, hcell, hfro, hset, cs, hblk⟩ := own_cell hm (by omega)
          injection he with he1 _ he3
          subst he1
          clear he3
          obtain ⟨u0, hu⟩ := hcell (j * 5 + 4) (by omega)
          have fk := hfro (j * 5 + 4)
          have HN := Lib.hid (show SpI (Yb (.slice A7 k c7) (.slice (some ⟨g, 0, none⟩) np c8)) w (wj.setCell ⟨g, j * 5 + 4, none⟩ (.string ⟨#[115, 112, 111, 105, 108, 116]⟩)) st vb fb (N + 1) xb (doS x d) (doF F d) (doS y d) (doF G d) (.slice A7 k c7) (.slice (some ⟨g, 0, none⟩) np c8) k np from
            HJ.out.spoil (fun b hb => (HY.out b hb).1) HST.out (.inr ⟨0, none, np, c8, rfl⟩) (let ⟨ys, h⟩ := HJ.out.m; ⟨ys, own_but h (But.set wj _ _) hblk (by decide)⟩) ⟨_, hset _ _⟩)
          clear hm hcell hfro hset hblk HJ
          go_wp2_with fail
          go_roundw
          case rel => exact ⟨j + 1, by omega, by go_num, HN⟩
          case measure => simp [intOf]; omega
        · obtain rfl : j = np := by omega
          go_wp2_with fail
          go_ret
          exact ⟨true, rfl, HJ.out.sto.new (Below.refl _ _) (fun b h => h.elim), HJ.out.fr, fun h1 h2 => ⟨rfl, by
            obtain ⟨e1, e2⟩ := HDS.out h1 h2
            rw [← e1, ← e2]
            exact HJ.out.doc.new (Below.refl _ _) (fun b h => h.elim)⟩⟩
end Go.Proofs.Ytcnkljbckpkgcaa
