/- The walk over (*thread.pass).once. A bound on the length. -/
import Derived.Test.YtpogngdddendiaaDoorGG
import Derived.Test.YtpogngdddendiaaDoorGZ
import Derived.Test.YtpogngdddendiaaDoorGS
import Derived.Test.YtpogngdddendiaaDoorGU
set_option linter.unusedVariables false
set_option linter.unusedSimpArgs false
namespace Go.Proofs.YtpogngdddendiaaDoor
open Go.RowKit

/-- Passed once. -/
def Onced (base g : Nat) (X : List Ins) (st : Int) (w : World) (e : Ending) (w' : World) : Prop :=
  e = .returned (.bool (!sameX X (onceX X))) ∧ ∃ gl cl vc, PassW w' base g gl (onceX X) cl st vc ∧ Below base w w'
set_option maxRecDepth 100000 in
set_option maxHeartbeats 4000000 in
theorem once_any (base g gl cl : Nat) (X : List Ins) (st : Int) (vc : Value) (w : World) (hw : PassW w base g gl X cl st vc) (hbs : base ≤ w.heap.size) (hok : okC X) :
    Calls Tryd.prog 36 #[.pointer (some ⟨g, 0, none⟩)] w (Onced base g X st w) := by
  have HOK := Lib.hid hok
  obtain ⟨W1, hW1⟩ : ∃ W1, W1 = w.alloc (.cells #[.pointer (some ⟨g, 0, none⟩)] 75) := ⟨_, rfl⟩
  have hb1 : Below w.heap.size w W1 := by rw [hW1]; exact (Below.refl _ _).alloc (Nat.le_refl _) _
  have HX := Lib.hid (show Blk W1 w.heap.size 75 #[.pointer (some ⟨g, 0, none⟩)] by rw [hW1]; exact Blk.new w _ _)
  have HW := Lib.hid (hw.below hb1)
  have HB := Lib.hid (hb1.mono hbs)
  have HSZ := Lib.hid (show base ≤ W1.heap.size from Nat.le_trans hbs hb1.size)
  obtain ⟨gx, hgx⟩ : ∃ gx, gx = w.heap.size := ⟨_, rfl⟩
  have HGX := Lib.hid (show base ≤ gx by rw [hgx]; exact hbs)
  have x0 := HX.out.cell 0
  have z0 := HW.out.blk.cell 0
  simp only [List.getElem?_toArray, List.getElem?_cons_zero] at x0 z0
  have HC := Lib.hid (iclone_any gl 0 cl X W1 HW.out.rd (by have := hok.most; omega) hok.pos)
  rw [← hgx] at HX x0
  clear hw hbs hok hb1
  go_enter Tryd.func36, Tryd.ntmps36
  go_upto_region 1 with (fail)
  rw [← hW1, ← hgx]
  clear hW1 hgx
  go_wp2_with fail
  refine HC.out.mono ?_
  rintro e w2 ⟨gw, cw, rfl, how, hb2⟩
  have HWAS := Lib.hid (own_mono how HSZ.out)
  have HGW := Lib.hid (own_blk how).1
  have HGL := Lib.hid (show gl < W1.heap.size from by obtain ⟨_, cur, hB⟩ := own_blk HW.out.own; exact hB.lt)
  replace HX := Lib.hid (HX.out.below hb2)
  replace HW := Lib.hid (HW.out.below hb2)
  replace HB := Lib.hid (HB.out.trans (hb2.mono HSZ.out))
  replace HSZ := Lib.hid (Nat.le_trans HSZ.out hb2.size)
  have HM := Lib.hid (tmark_any base g gl cl X st vc w2 HW.out HSZ.out HOK.out.pr HOK.out.most)
  clear how hb2 HC x0 z0
  have x0 := HX.out.cell 0
  simp only [List.getElem?_toArray, List.getElem?_cons_zero] at x0
  go_wp2_with fail
  refine HM.out.mono ?_
  rintro e w3 ⟨rfl, gc, hp3, hc3, hb3⟩
  replace HWAS := Lib.hid (own_but HWAS.out hb3 HW.out.blk (by decide))
  replace HX := Lib.hid ((hb3).blk HX.out (HX.out.apart HW.out.blk (by decide)))
  have HC3 := Lib.hid hc3
  replace HB := Lib.hid (HB.out.trans (hb3.below HW.out.hb HSZ.out))
  replace HSZ := Lib.hid (Nat.le_trans HSZ.out hb3.size)
  replace HW := Lib.hid hp3
  clear hp3 hc3 hb3 HM x0
  have x0 := HX.out.cell 0
  simp only [List.getElem?_toArray, List.getElem?_cons_zero] at x0
  have HS := Lib.hid (tstr_any base g gl cl gc X st w3 HW.out HC3.out HOK.out.pr HOK.out.most)
  go_wp2_with fail
  refine HS.out.mono ?_
  rintro e w4 ⟨rfl, hp4, hc4, hb4⟩
  obtain ⟨hgl, cur4, hB4⟩ := own_blk HW.out.own
  replace HWAS := Lib.hid (own_but_ne HWAS.out hb4 (fun e => by
    have h1 : (Value.slice (some ⟨gw, 0, none⟩) X.length cw).ownBlock = some gw := rfl
    rw [h1] at e
    injection e with e
    have := HGW.out
    have := HGL.out
    omega))
  replace HX := Lib.hid (hb4.blk HX.out (HX.out.apart hB4 (by decide)))
  replace HB := Lib.hid (HB.out.trans (hb4.below hgl HSZ.out))
  replace HSZ := Lib.hid (Nat.le_trans HSZ.out hb4.size)
  replace HW := Lib.hid hp4
  clear hp4 hb4 HS x0 hgl hB4 cur4 HC3 hc4
  have HOS := Lib.hid (str_ok HOK.out)
  have HSL := Lib.hid (show (straightX X).length = X.length from strK_length X _)
  obtain ⟨X1, hX1⟩ : ∃ X1, straightX X = X1 := ⟨_, rfl⟩
  have HX1 := Lib.hid hX1
  rw [hX1] at HW HOS HSL
  clear hX1
  have x0 := HX.out.cell 0
  have z0 := HW.out.blk.cell 0
  have z1 := HW.out.blk.cell 1
  simp only [List.getElem?_toArray, List.getElem?_cons_zero, List.getElem?_cons_succ] at x0 z0 z1
  have HR := Lib.hid (reached_any (some ⟨gl, 0, none⟩) cl X1 st w4 HW.out.rd HOS.out.pos HOS.out.most)
  go_wp2_with fail
  refine HR.out.mono ?_
  rintro e w5 ⟨gr, rfl, hr5, hb5⟩
  have HR5 := Lib.hid (show rowB w5 base gr X1.length (reachL (tgN X1) X1.length) from own_mono hr5 HSZ.out)
  replace HWAS := Lib.hid (own_below HWAS.out hb5)
  replace HX := Lib.hid (HX.out.below hb5)
  replace HW := Lib.hid (HW.out.below hb5)
  replace HB := Lib.hid (HB.out.trans (hb5.mono HSZ.out))
  replace HSZ := Lib.hid (Nat.le_trans HSZ.out hb5.size)
  clear hr5 hb5 HR x0 z0 z1
  go_upto_region 5 with (fail)
  obtain ⟨W6, hW6⟩ : ∃ W6, W6 = w5.alloc (.cells #[.slice (some ⟨gr, 0, none⟩) X1.length X1.length] 33) := ⟨_, rfl⟩
  have hb6 : Below w5.heap.size w5 W6 := by rw [hW6]; exact (Below.refl _ _).alloc (Nat.le_refl _) _
  have HK6 := Lib.hid (show Blk W6 w5.heap.size 33 #[.slice (some ⟨gr, 0, none⟩) X1.length X1.length] by rw [hW6]; exact Blk.new w5 _ _)
  replace HR5 := Lib.hid (HR5.out.below hb6)
  replace HWAS := Lib.hid (own_below HWAS.out hb6)
  replace HX := Lib.hid (HX.out.below hb6)
  replace HW := Lib.hid (HW.out.below hb6)
  replace HB := Lib.hid (HB.out.trans (hb6.mono HSZ.out))
  replace HSZ := Lib.hid (Nat.le_trans HSZ.out hb6.size)
  rw [← hW6]
  clear hW6 hb6
  generalize w5.heap.size = g4 at *
  have HL := Lib.hid (leave_any base g gl cl 73 (.pointer (some ⟨g4, 0, none⟩)) (.pointer (some ⟨gx, 0, none⟩)) X1 (goneA X1) st _ W6 HW.out HSZ.out HOS.out (goneA_last X1)
    (fun i hi W hb => once1_any base g gl cl gr g4 gx i X1 st _ W (HW.out.below hb) (HR5.out.below hb) (HK6.out.below hb) (HX.out.below hb) hi HOS.out.most) (fun args W => by kernel_rfl))
  have x0 := HX.out.cell 0
  simp only [List.getElem?_toArray, List.getElem?_cons_zero] at x0
  go_wp2_with fail
  refine HL.out.mono ?_
  rintro e w7 ⟨lb, gl7, cl7, rfl, hp7, hge7, hb7⟩
  replace HWAS := Lib.hid (own_but HWAS.out hb7 HW.out.blk (by decide))
  replace HX := Lib.hid ((hb7).blk HX.out (HX.out.apart HW.out.blk (by decide)))
  replace HB := Lib.hid (HB.out.trans (hb7.below HW.out.hb HSZ.out))
  replace HSZ := Lib.hid (Nat.le_trans HSZ.out hb7.size)
  obtain ⟨X2, hX2⟩ : ∃ X2, leaveX X1 (goneA X1) = X2 := ⟨_, rfl⟩
  have HX2 := Lib.hid (show X2 = midX X by rw [← hX2, ← HX1.out]; rfl)
  rw [hX2] at hp7
  replace HW := Lib.hid hp7
  have HO2 := Lib.hid (show okC X2 by rw [HX2.out]; exact mid_ok HOK.out)
  clear hp7 hb7 hge7 hX2 HL HK6 HR5 HOS HSL HX1 x0
  have HM := Lib.hid (tmark_any base g gl7 cl7 X2 st _ w7 HW.out HSZ.out HO2.out.pr HO2.out.most)
  have x0 := HX.out.cell 0
  simp only [List.getElem?_toArray, List.getElem?_cons_zero] at x0
  go_wp2_with fail
  refine HM.out.mono ?_
  rintro e w8 ⟨rfl, gc8, hp8, hc8, hb8⟩
  replace HWAS := Lib.hid (own_but HWAS.out hb8 HW.out.blk (by decide))
  replace HX := Lib.hid ((hb8).blk HX.out (HX.out.apart HW.out.blk (by decide)))
  have HC8 := Lib.hid hc8
  replace HB := Lib.hid (HB.out.trans (hb8.below HW.out.hb HSZ.out))
  replace HSZ := Lib.hid (Nat.le_trans HSZ.out hb8.size)
  replace HW := Lib.hid hp8
  clear hp8 hc8 hb8 HM x0
  have x0 := HX.out.cell 0
  have z2 := HW.out.blk.cell 2
  simp only [List.getElem?_toArray, List.getElem?_cons_zero, List.getElem?_cons_succ] at x0 z2
  go_upto_region 8 with (fail)
  obtain ⟨W9, hW9⟩ : ∃ W9, W9 = w8.alloc (.cells #[.slice (some ⟨gc8, 0, none⟩) X2.length X2.length] 33) := ⟨_, rfl⟩
  have hb9 : Below w8.heap.size w8 W9 := by rw [hW9]; exact (Below.refl _ _).alloc (Nat.le_refl _) _
  have HK9 := Lib.hid (show Blk W9 w8.heap.size 33 #[.slice (some ⟨gc8, 0, none⟩) X2.length X2.length] by rw [hW9]; exact Blk.new w8 _ _)
  replace HC8 := Lib.hid (HC8.out.below hb9)
  replace HWAS := Lib.hid (own_below HWAS.out hb9)
  replace HX := Lib.hid (HX.out.below hb9)
  replace HW := Lib.hid (HW.out.below hb9)
  replace HB := Lib.hid (HB.out.trans (hb9.mono HSZ.out))
  replace HSZ := Lib.hid (Nat.le_trans HSZ.out hb9.size)
  rw [← hW9]
  clear hW9 hb9 x0 z2
  generalize w8.heap.size = g5 at *
  have HL := Lib.hid (leave_any base g gl7 cl7 74 (.pointer (some ⟨gx, 0, none⟩)) (.pointer (some ⟨g5, 0, none⟩)) X2 (goneB X2) st _ W9 HW.out HSZ.out HO2.out (goneB_last HO2.out)
    (fun i hi W hb => once2_any base g gl7 cl7 gc8 g5 gx i X2 st _ W (HW.out.below hb) (HC8.out.below hb) (HK9.out.below hb) (HX.out.below hb) hi HO2.out.most) (fun args W => by kernel_rfl))
  have x0 := HX.out.cell 0
  simp only [List.getElem?_toArray, List.getElem?_cons_zero] at x0
  go_wp2_with fail
  refine HL.out.mono ?_
  rintro e w10 ⟨lb2, gl10, cl10, rfl, hp10, hge10, hb10⟩
  replace HWAS := Lib.hid (own_but HWAS.out hb10 HW.out.blk (by decide))
  replace HX := Lib.hid ((hb10).blk HX.out (HX.out.apart HW.out.blk (by decide)))
  replace HB := Lib.hid (HB.out.trans (hb10.below HW.out.hb HSZ.out))
  replace HSZ := Lib.hid (Nat.le_trans HSZ.out hb10.size)
  have HX3 := Lib.hid (show leaveX X2 (goneB X2) = onceX X by rw [HX2.out]; rfl)
  rw [HX3.out] at hp10
  replace HW := Lib.hid hp10
  clear hp10 hb10 hge10 HL HK9 HC8 HO2 HX2 HX3 x0
  have x0 := HX.out.cell 0
  have z0 := HW.out.blk.cell 0
  simp only [List.getElem?_toArray, List.getElem?_cons_zero] at x0 z0
  have hwr : RdL w10 4 insc (some ⟨gw, 0, none⟩) X := by
    obtain ⟨A, c, he, _, _, h2, _⟩ := RdL.of_own (enc := insc) (sz := 4) (fun _ => rfl) HWAS.out rfl
    injection he with he
    subst he
    exact h2
  have HE := Lib.hid (iequal_any (some ⟨gw, 0, none⟩) (some ⟨gl10, 0, none⟩) cw cl10 X (onceX X) w10 hwr HW.out.rd (by have := HOK.out.most; omega) (by have := HOK.out.most; have := once_le X; omega))
  obtain ⟨q, hq⟩ : ∃ q, sameX X (onceX X) = q := ⟨_, rfl⟩
  have HQ := Lib.hid hq
  rw [hq] at HE
  clear hwr hq
  go_wp2_with fail
  refine HE.out.mono ?_
  rintro e w11 ⟨rfl, hb11⟩
  replace HW := Lib.hid (HW.out.below hb11)
  replace HB := Lib.hid (HB.out.trans (hb11.mono HSZ.out))
  clear hb11 x0 z0 HE
  go_wp2_with fail
  go_ret
  exact ⟨by rw [HQ.out]; rfl, gl10, cl10, _, HW.out, HB.out⟩
end Go.Proofs.YtpogngdddendiaaDoor

/- The walk over thread.Pass at a code that may be. Bounds on the stack. -/
set_option linter.unusedVariables false
set_option linter.unusedSimpArgs false
namespace Go.Proofs.YtpogngdddendiaaDoor
open Go.RowKit

theorem insc_inj {x y : Ins} (h : insc x = insc y) : x = y := by
  obtain ⟨a, b, c, s⟩ := x
  obtain ⟨a', b', c', s'⟩ := y
  simp [insc] at h
  obtain ⟨h1, h2, h3, h4⟩ := h
  subst h1 h2 h3 h4
  rfl
theorem rdI_uniq {w : World} {A : Option Addr} {X Y : List Ins} (h : RdL w 4 insc A X) (h' : RdL w 4 insc A Y) (hl : X.length = Y.length) : X = Y := by
  refine List.ext_getElem hl fun k h1 h2 => ?_
  obtain ⟨b, o, hA, _, hc⟩ := h k h1
  obtain ⟨b', o', hA', _, hc'⟩ := h' k h2
  rw [hA] at hA'
  injection hA' with hA'
  injection hA' with hb ho
  subst hb ho
  refine insc_inj ?_
  have e0 := hc 0 _ rfl
  have e1 := hc 1 _ rfl
  have e2 := hc 2 _ rfl
  have e3 := hc 3 _ rfl
  have e0' := hc' 0 _ rfl
  have e1' := hc' 1 _ rfl
  have e2' := hc' 2 _ rfl
  have e3' := hc' 3 _ rfl
  rw [e0] at e0'
  rw [e1] at e1'
  rw [e2] at e2'
  rw [e3] at e3'
  injection e0' with e0'
  injection e1' with e1'
  injection e2' with e2'
  injection e3' with e3'
  unfold insc
  rw [e0', e1', e2', e3']
section
variable {w : World} {base g gl gl' cl cl' : Nat} {X X' : List Ins} {st st' : Int} {vc vc' : Value}
theorem PassW.uniq (h : PassW w base g gl X cl st vc) (h' : PassW w base g gl' X' cl' st' vc') : X = X' := by
  have e := h.blk.symm.trans h'.blk
  injection e with e
  injection e with e
  have e2 := congrArg (fun a : Array Value => a[0]?) e
  simp only [List.getElem?_toArray, List.getElem?_cons_zero, Option.some.injEq] at e2
  injection e2 with e3 e4 e5
  injection e3 with e3
  injection e3 with e3
  subst e3
  exact rdI_uniq h.rd h'.rd e4
open Classical in
noncomputable def pmOf (w : World) (base g : Nat) : Nat := if h : ∃ X gl cl st vc, PassW w base g gl X cl st vc then pmeas h.choose else 0
theorem pmOf_eq (h : PassW w base g gl X cl st vc) : pmOf w base g = pmeas X := by
  have hx : ∃ X gl cl st vc, PassW w base g gl X cl st vc := ⟨X, gl, cl, st, vc, h⟩
  unfold pmOf
  rw [dif_pos hx]
  obtain ⟨gl2, cl2, st2, vc2, h2⟩ := hx.choose_spec
  rw [h2.uniq h]
end
/-- A code of one's own, passed. -/
def PassRet (X : List Ins) (st : Int) (w : World) (e : Ending) (w' : World) : Prop :=
  ∃ gl cl Y, e = .returned (.agg #[.slice (some ⟨gl, 0, none⟩) Y.length cl, .int .i64 st]) ∧ w'.ownsRow w.heap.size 36 4 (.slice (some ⟨gl, 0, none⟩) Y.length cl) Y.length (Y.flatMap insc) ∧ PassTo X Y ∧ Below w.heap.size w w'
def clT (base n : Nat) (X : List Ins) : TT := ⟨fun v => ∃ gl c, v = .slice (some ⟨gl, 0, none⟩) n c, ⟨_, 0, 0, rfl⟩, fun v x => x.ownsRow base 36 4 v n (X.flatMap insc), fun _ _ _ h hb => own_below h hb⟩
set_option maxRecDepth 100000 in
set_option maxHeartbeats 4000000 in
theorem pass_any (b o c : Nat) (X : List Ins) (st : Nat) (w : World) (hrd : RdL w 4 insc (some ⟨b, o, none⟩) X) (hok : okC X) (hst : st ≤ 9000) :
    Calls Tryd.prog 11 #[.agg #[.slice (some ⟨b, o, none⟩) X.length c, .int .i64 (st : Int)]] w (PassRet X st w) := by
  obtain ⟨m, hm⟩ : ∃ m, X.length = m := ⟨_, rfl⟩
  have HM := Lib.hid hm
  have HOK := Lib.hid hok
  obtain ⟨W1, hW1⟩ : ∃ W1, W1 = w.alloc (.cells #[.slice (some ⟨b, o, none⟩) m c, .int .i64 (st : Int)] 29) := ⟨_, rfl⟩
  obtain ⟨W2, hW2⟩ : ∃ W2, W2 = W1.alloc (.cells #[.slice none 0 0, .int .i64 0] 29) := ⟨_, rfl⟩
  have hb1 : Below w.heap.size w W1 := by rw [hW1]; exact (Below.refl _ _).alloc (Nat.le_refl _) _
  have hb2 : Below W1.heap.size W1 W2 := by rw [hW2]; exact (Below.refl _ _).alloc (Nat.le_refl _) _
  have hz1 : W1.heap.size = w.heap.size + 1 := by rw [hW1]; exact Array.size_push _
  have HK1 := Lib.hid (show Blk W2 w.heap.size 29 #[.slice (some ⟨b, o, none⟩) m c, .int .i64 (st : Int)] by
    have : Blk W1 w.heap.size 29 #[.slice (some ⟨b, o, none⟩) m c, .int .i64 (st : Int)] := by rw [hW1]; exact Blk.new w _ _
    exact this.below hb2)
  have HK2 := Lib.hid (show Blk W2 (w.heap.size + 1) 29 #[.slice none 0 0, .int .i64 0] by rw [hW2, ← hz1]; exact Blk.new W1 _ _)
  have HB2 := Lib.hid (hb1.trans (hb2.mono hb1.size))
  have HRD := Lib.hid (hrd.below HB2.out)
  obtain ⟨g1, hg1⟩ : ∃ g1, g1 = w.heap.size := ⟨_, rfl⟩
  obtain ⟨g2, hg2⟩ : ∃ g2, g2 = w.heap.size + 1 := ⟨_, rfl⟩
  have HG2 := Lib.hid (show w.heap.size ≤ g2 by omega)
  obtain ⟨B2, hB2⟩ : ∃ B2, B2 = W2.heap.size := ⟨_, rfl⟩
  have HBL := Lib.hid (show w.heap.size ≤ B2 by rw [hB2]; exact HB2.out.size)
  have HBG := Lib.hid (show g2 < B2 by rw [hB2, hg2]; exact HK2.out.lt)
  have HBE := Lib.hid hB2
  clear hB2
  have HGN := Lib.hid (show g1 ≠ g2 by omega)
  have hn : m ≤ 9000 := by rw [← hm]; exact hok.most
  rw [hm]
  go_enter Tryd.func11, Tryd.ntmps11
  go_upto_region 1 with (fail)
  rw [← hW1, ← hW2]
  rw [← hg2] at HK2 ⊢
  rw [← hg1] at HK1
  rw [show w.heap.size = g1 from hg1.symm]
  clear hW1 hW2 hb1 hb2 hz1 hg1 hg2 hrd hok hm
  have z0 := HK1.out.cell 0
  have z1 := HK1.out.cell 1
  simp only [List.getElem?_toArray, List.getElem?_cons_zero, List.getElem?_cons_succ] at z0 z1
  have HC := Lib.hid (fun W (hb : Below W2.heap.size W2 W) => iclone_any b o c X W (HRD.out.below hb) (by rw [HM.out]; omega) HOK.out.pos)
  rw [HM.out] at HC
  apply wp_region_relA 5 [eqT _, eqT _, clT B2 m X, eqT _, eqT _] (by kernel_rfl) (by kernel_rfl) (by kernel_rfl) rfl
  focus
    refine ⟨?_, ?_⟩
    focus
      unfold opGoal
      rw [if_pos (by kernel_rfl)]
      intro x hb hd K hk
      clear hd
      go_wp2_with fail
      exact hk _ _ rfl trivial (Below.refl _ _)
    rintro _ rfl
    simp only [Act.put, List.setIfInBounds_toArray, List.set_cons_succ, List.set_cons_zero]
    refine ⟨?_, ?_⟩
    focus
      unfold opGoal
      rw [if_pos (by kernel_rfl)]
      intro x hb hd K hk
      clear hd
      have l0 := cell_keep hb z0
      go_wp2_with fail
      exact hk _ _ rfl trivial (Below.refl _ _)
    rintro _ rfl
    simp only [Act.put, List.setIfInBounds_toArray, List.set_cons_succ, List.set_cons_zero]
    refine ⟨?_, ?_⟩
    focus
      unfold opGoal
      rw [if_pos (by kernel_rfl)]
      intro x hb hd K hk
      clear hd
      have hsz := hb.size
      go_wp2_with fail
      refine (HC.out x hb).mono ?_
      rintro e x' ⟨gl, cl, rfl, ho, hb'⟩
      rw [HM.out] at ho ⊢
      exact hk _ _ ⟨_, _, rfl⟩ (own_mono ho (by rw [HBE.out]; exact hsz)) hb'
    rintro _ ⟨gl, cl, rfl⟩
    simp only [Act.put, List.setIfInBounds_toArray, List.set_cons_succ, List.set_cons_zero]
    refine ⟨?_, ?_⟩
    focus
      unfold opGoal
      rw [if_pos (by kernel_rfl)]
      intro x hb hd K hk
      clear hd
      go_wp2_with fail
      exact hk _ _ rfl trivial (Below.refl _ _)
    rintro _ rfl
    simp only [Act.put, List.setIfInBounds_toArray, List.set_cons_succ, List.set_cons_zero]
    refine ⟨?_, ?_⟩
    focus
      unfold opGoal
      rw [if_pos (by kernel_rfl)]
      intro x hb hd K hk
      clear hd
      have l0 := cell_keep hb z1
      go_wp2_with fail
      exact hk _ _ rfl trivial (Below.refl _ _)
    rintro _ rfl
    simp only [Act.put, List.setIfInBounds_toArray, List.set_cons_succ, List.set_cons_zero]
    intro y hby hf
    simp only [List.drop_succ_cons, List.drop_zero]
    have HO := Lib.hid (hf 2 (clT B2 m X) (.slice (some ⟨gl, 0, none⟩) m cl) (by kernel_rfl) (by kernel_rfl))
    have HB3 := Lib.hid (HB2.out.trans (hby.mono HB2.out.size))
    have HY := Lib.hid (show B2 ≤ y.heap.size by rw [HBE.out]; exact hby.size)
    replace HK1 := Lib.hid (HK1.out.below hby)
    replace HK2 := Lib.hid (HK2.out.below hby)
    replace HRD := Lib.hid (HRD.out.below hby)
    clear hf hby z0 z1 HC
    go_upto_region 2 with (fail)
    obtain ⟨W4, hW4⟩ : ∃ W4, W4 = y.alloc (.cells #[.slice (some ⟨gl, 0, none⟩) m cl, .int .i64 (st : Int), .slice none 0 0] 78) := ⟨_, rfl⟩
    have hb4 : Below y.heap.size y W4 := by rw [hW4]; exact (Below.refl _ _).alloc (Nat.le_refl _) _
    have HP := Lib.hid (show PassW W4 B2 y.heap.size gl X cl st (.slice none 0 0) from
      ⟨HY.out, by rw [HM.out, hW4]; exact Blk.new y _ _, by rw [HM.out]; exact own_below HO.out hb4⟩)
    have HY4 := Lib.hid (Nat.le_trans HY.out hb4.size)
    have HB4 := Lib.hid (HB3.out.trans (hb4.mono HB3.out.size))
    replace HK1 := Lib.hid (HK1.out.below hb4)
    replace HK2 := Lib.hid (HK2.out.below hb4)
    replace HRD := Lib.hid (HRD.out.below hb4)
    rw [← hW4]
    clear hW4 hb4 HO HB3 HY HBE
    generalize y.heap.size = g at *
    have z0 := HK1.out.cell 0
    have z1 := HK1.out.cell 1
    simp only [List.getElem?_toArray, List.getElem?_cons_zero, List.getElem?_cons_succ] at z0 z1
    have HCK := Lib.hid (ccheck_fine (some ⟨b, o, none⟩) c st X W4 HOK.out.pos HOK.out.most hst HOK.out.ok (fun h => by
      obtain ⟨x, hx, he⟩ := HOK.out.last
      rw [List.getElem?_eq_getElem h] at hx
      injection hx with hx
      rw [hx]
      exact he) HRD.out)
    rw [HM.out] at HCK
    go_wp2_with fail
    refine HCK.out.mono ?_
    rintro e w5 ⟨rfl, hb5⟩
    replace HK2 := Lib.hid (HK2.out.below hb5)
    replace HP := Lib.hid (HP.out.below hb5)
    have HB5 := Lib.hid (HB4.out.trans (hb5.mono HB4.out.size))
    have HY5 := Lib.hid (Nat.le_trans HY4.out hb5.size)
    have HPT := Lib.hid (show ∀ Y, PassTo X Y → PassTo X Y from fun _ h => h)
    clear hb5 z0 z1 HCK HB4 HY4 HK1 HRD y
    go_wp2_with fail
    go_loopw [] (fun wr => ∃ (X' : List Ins) (gl' cl' : Nat) (vc : Value), Hid (okC X') ∧ Hid (∀ Y, PassTo X' Y → PassTo X Y) ∧ Hid (PassW wr B2 g gl' X' cl' st vc) ∧ Hid (B2 ≤ wr.heap.size) ∧ Hid (Blk wr g2 29 #[.slice none 0 0, .int .i64 0]) ∧ Hid (Below w.heap.size w wr)) (fun wr => pmOf wr B2 g)
    case atStart => exact ⟨X, gl, cl, _, HOK, HPT, HP, HY5, HK2, HB5⟩
    case round =>
      clear HP HK2 HB5 HPT HY5
      obtain ⟨X', gl', cl', vc, HOK', HPT, HP, HY, HK, HB⟩ := hrel
      have hon := once_any B2 g gl' cl' X' st vc wr HP.out HY.out HOK'.out
      obtain ⟨q, hq⟩ : ∃ q, sameX X' (onceX X') = q := ⟨_, rfl⟩
      have HQ := Lib.hid hq
      unfold Onced at hon
      rw [hq] at hon
      have HON := Lib.hid hon
      clear hon
      have HPM := Lib.hid (pmOf_eq HP.out)
      have HGB := Lib.hid HP.out.hb
      have HGA := Lib.hid (show g ≠ g2 from HP.out.blk.apart HK.out (by decide))
      clear hq
      go_wp2_with fail
      refine HON.out.mono ?_
      rintro e w6 ⟨rfl, gl6, cl6, vc6, hp6, hb6⟩
      have HP6 := Lib.hid hp6
      have HY6 := Lib.hid (Nat.le_trans HY.out hb6.size)
      have HK6 := Lib.hid (show Blk w6 g2 29 #[.slice none 0 0, .int .i64 0] from (hb6.block g2 HBG.out).trans HK.out)
      have HB6 := Lib.hid (HB.out.trans (hb6.mono HBL.out))
      have HO6 := Lib.hid (once_ok HOK'.out)
      clear hp6 hb6 HON HK HB HY
      cases q with
      | false =>
        have HNE := Lib.hid (show onceX X' ≠ X' from fun e => by
          have := HQ.out
          rw [e, (sameX_iff X' X').2 rfl] at this
          cases this)
        have HPT2 := Lib.hid (show ∀ Y, PassTo (onceX X') Y → PassTo X Y from fun Y h => HPT.out Y h.go)
        have HPL := Lib.hid (pmeas_lt HOK'.out HNE.out)
        have HPM6 := Lib.hid (pmOf_eq HP6.out)
        clear HP HPT HQ HNE HOK'
        go_wp2_with fail
        go_roundw
        case rel => exact ⟨_, gl6, cl6, vc6, HO6, HPT2, HP6, HY6, HK6, HB6⟩
        case measure => rw [HPM.out, HPM6.out]; exact HPL.out
      | true =>
        have HFX := Lib.hid ((sameX_iff X' (onceX X')).1 HQ.out)
        have HPX := Lib.hid (HPT.out X' (.fix HFX.out.symm))
        rw [← HFX.out] at HP6
        obtain ⟨n6, hn6⟩ : ∃ n6, X'.length = n6 := ⟨_, rfl⟩
        have HN6 := Lib.hid hn6
        have z0 := HP6.out.blk.cell 0
        have z1 := HP6.out.blk.cell 1
        have y0 := HK6.out.cell 0
        have y1 := HK6.out.cell 1
        have q0 := HK6.out.frozen 0
        have q1 := HK6.out.frozen 1
        have hB2 := (HK6.out.set 0 (.slice (some ⟨gl6, 0, none⟩) n6 cl6)).set 1 (.int .i64 (st : Int))
        have e0 := hB2.cell 0
        have e1 := hB2.cell 1
        simp only [List.getElem?_toArray, List.getElem?_cons_zero, List.getElem?_cons_succ, List.setIfInBounds_toArray, List.set_cons_succ, List.set_cons_zero] at e0 e1 z0 z1 y0 y1
        rw [hn6] at z0
        have E0 := Lib.hid e0
        have E1 := Lib.hid e1
        have HO2 := Lib.hid (own_but (own_but HP6.out.own (But.set w6 0 (.slice (some ⟨gl6, 0, none⟩) n6 cl6)) HK6.out (by decide)) (But.set _ 1 (.int .i64 (st : Int))) (HK6.out.set 0 (.slice (some ⟨gl6, 0, none⟩) n6 cl6)) (by decide))
        have EF := Lib.hid (((HB6.out).setCell (p := ⟨g2, 0, none⟩) HG2.out (.slice (some ⟨gl6, 0, none⟩) n6 cl6)).setCell (p := ⟨g2, 1, none⟩) HG2.out (.int .i64 (st : Int)))
        clear hB2 e0 e1 hn6 HP HPM HFX HQ HOK' HO6
        go_wp2_with fail
        refine bodyPost_ret (v := .agg #[.slice (some ⟨gl6, 0, none⟩) n6 cl6, .int .i64 (st : Int)]) ?_ rfl ⟨gl6, cl6, X', by rw [HN6.out], own_mono HO2.out HBL.out, HPX.out, EF.out⟩
        have e0 := E0.out
        have e1 := E1.out
        generalize ((w6.setCell ⟨g2, 0, none⟩ (.slice (some ⟨gl6, 0, none⟩) n6 cl6)).setCell ⟨g2, 1, none⟩ (.int .i64 (st : Int))) = WF at *
        simp [results, Tryd.results11, go_sem, e0, e1]
end Go.Proofs.YtpogngdddendiaaDoor
