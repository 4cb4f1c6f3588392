/- The walk over chapter 7's examples: they hold. No condition. -/
import Derived.Test.YtcnkljbckpkgcaaStoW4
set_option linter.unusedVariables false
set_option linter.unusedSimpArgs false
namespace Go.Proofs.Ytcnkljbckpkgcaa
open Go.RowKit Go.Maps Go.Sort

theorem TxR.lit (w : World) (l : List Txt) (cs : Array Value) (h : cs = (l.flatMap strc).toArray) (hl : l.length ≤ 1000) : TxR (w.alloc (.cells cs 9)) (.slice (some ⟨w.heap.size, 0, none⟩) l.length l.length) l := by
  subst h
  refine OwnT.rd (B := w.heap.size) ⟨_, _, rfl, ?_⟩
  have hs : (l.flatMap strc).toArray.size = l.length := by rw [List.size_toArray, flat_len strc_len, Nat.mul_one]
  exact World.ownsRow_lit w (l.flatMap strc).toArray l.length (size := 1) (Nat.le_refl _) (by simp only [maxLen]; omega) (by rw [hs, Nat.mul_one])
theorem ValR.nil (w : World) : ValR w (.slice none 0 0) [] := ⟨none, 0, [], rfl, RdL.nil _ _ _ _, AllV.nil _ _, fun _ => rfl, Nat.le_refl _, Nat.zero_le _⟩
abbrev X0 : Nat → Prop := fun _ => False
theorem sm_new : SmS (newS []) := ⟨by decide, fun n l h => by cases h⟩
theorem fst_below {w : World} (o : Obj) : Below w.heap.size w (w.alloc o) := (Below.refl _ _).alloc (Nat.le_refl _) _
def x1F : Sto := setS (newS []) [120] [[97], [98]]
def x2F : Sto := swapS x1F [120] false []
theorem g1F : getS x1F [120] = ([[97], [98]], true) := rfl
theorem g2F : getS x2F [120] = ([], false) := rfl
theorem sm1F : SmS x1F := sm_set sm_new (by decide)
theorem sm2F : SmS x2F := sm_unset (n := [120]) sm1F
theorem len1 (c : UInt8) : [c].length ≤ maxLen := by unfold maxLen; simp
set_option maxRecDepth 100000 in
set_option maxHeartbeats 4000000 in
theorem first7_any (w : World) : Calls Try.prog 5 #[] w (Ret w (.bool true)) := by
  go_enter Try.func5, Try.ntmps5
  go_wp2_with fail
  refine (new_any (X := X0) (.slice none 0 0) [] w (ValR.nil w) (by decide) (fun p h => by cases h) (fun b h => False.elim h)).mono ?_
  rintro e w1 ⟨st, vb, fb, rfl, h1, hst, hvb, hfb, hb1⟩
  have H1 := Lib.hid h1
  have HS := Lib.hid (show ∀ k ∈ [st, vb, fb], w.heap.size ≤ k from fun k hk => by
    simp only [List.mem_cons, List.not_mem_nil, or_false] at hk
    omega)
  clear h1 hst hvb hfb
  go_wp2_with fail
  refine (set_any st vb fb 0 (newS []) [] [120] _ [[97], [98]] _ (H1.out.below (fst_below _)) (by decide) (len1 _) (TxR.lit w1 [[97], [98]] _ rfl (by decide)) (by decide)).mono ?_
  rintro e w2 ⟨rfl, h2, hb2⟩
  have H2 := Lib.hid (show StI X0 w2 st vb fb 1 x1F [] from h2)
  have hbw := hb1.trans ((fst_below (w := w1) _).mono hb1.size |>.trans (hb2.below HS.out (Nat.le_trans hb1.size (fst_below (w := w1) _).size)))
  clear h2 hb2 hb1 H1
  go_wp2_with fail
  refine (get_any st vb fb 1 x1F [] [120] _ H2.out sm1F (len1 _)).mono ?_
  rw [g1F]
  rintro e w3 ⟨v3, rfl, h3, hb3⟩
  have H3 := Lib.hid h3
  replace H2 := Lib.hid (H2.out.below hb3)
  replace hbw := hbw.trans (hb3.mono hbw.size)
  obtain ⟨A3, c3, rfl, -⟩ := h3
  clear hb3
  go_wp2_with fail
  refine (swap_any st vb fb 1 x1F [] [120] false _ [] _ H2.out sm1F (by decide) (len1 _) (TxR.nil _) (by decide)).mono ?_
  rw [g1F]
  rintro e w4 ⟨v4, rfl, h4, hI4, hb4⟩
  have H4 := Lib.hid (show StI X0 w4 st vb fb 2 x2F [] from hI4)
  have HT3 := Lib.hid (H3.out.rd.butS H2.out.s hb4)
  have HT4 := Lib.hid h4.rd
  replace hbw := hbw.trans (hb4.below HS.out hbw.size)
  obtain ⟨A4, c4, rfl, -⟩ := h4
  clear hb4 hI4 H2 H3
  go_wp2_with fail
  refine (get_any st vb fb 2 x2F [] [120] _ H4.out sm2F (len1 _)).mono ?_
  rw [g2F]
  rintro e w5 ⟨v5, rfl, h5, hb5⟩
  replace HT3 := Lib.hid (HT3.out.below hb5)
  replace HT4 := Lib.hid (HT4.out.below hb5)
  replace H4 := Lib.hid (H4.out.below hb5)
  replace hbw := hbw.trans (hb5.mono hbw.size)
  obtain ⟨A5, c5, rfl, -⟩ := h5
  clear hb5
  go_wp2_with fail
  refine (setargs_any st vb fb 2 x2F [] _ [[49], [50]] _ (H4.out.below (fst_below _)) (TxR.lit w5 [[49], [50]] _ rfl (by decide)) (by decide)).mono ?_
  rintro e w6 ⟨v6, rfl, h6, hI6, hb6⟩
  have H6 := Lib.hid (show StI X0 w6 st vb fb 2 ⟨x2F.vars, [[49], [50]]⟩ [] from hI6)
  replace HT3 := Lib.hid ((HT3.out.below (fst_below _)).butS (H4.out.below (fst_below _)).s hb6)
  replace HT4 := Lib.hid ((HT4.out.below (fst_below _)).butS (H4.out.below (fst_below _)).s hb6)
  replace hbw := hbw.trans ((fst_below (w := w5) _).mono hbw.size |>.trans (hb6.below HS.out (Nat.le_trans hbw.size (fst_below (w := w5) _).size)))
  obtain ⟨⟨A6, c6, rfl, -⟩, -⟩ := h6
  clear hb6 hI6 H4
  go_wp2_with fail
  refine (get_any st vb fb 2 ⟨x2F.vars, [[49], [50]]⟩ [] [42] _ H6.out ⟨by decide, sm2F.vars⟩ (len1 _)).mono ?_
  rw [show getS ⟨x2F.vars, [[49], [50]]⟩ [42] = ([[49], [50]], true) from rfl]
  rintro e w7 ⟨v7, rfl, h7, hb7⟩
  replace HT3 := Lib.hid (HT3.out.below hb7)
  replace HT4 := Lib.hid (HT4.out.below hb7)
  have HT7 := Lib.hid h7.rd
  replace hbw := hbw.trans (hb7.mono hbw.size)
  obtain ⟨A7, c7, rfl, -⟩ := h7
  clear hb7 H6
  go_wp2_with fail
  refine (sametxt_v _ _ [[97], [98]] [[97], [98]] _ (HT3.out.below (fst_below _)) (TxR.lit w7 [[97], [98]] _ rfl (by decide)) (by decide) (by decide)).mono ?_
  rw [decide_eq_true rfl]
  rintro e w8 ⟨rfl, hb8⟩
  have hb78 : Below w7.heap.size w7 w8 := (fst_below _).trans (hb8.mono (fst_below _).size)
  replace HT3 := Lib.hid (HT3.out.below hb78)
  replace HT4 := Lib.hid (HT4.out.below hb78)
  replace HT7 := Lib.hid (HT7.out.below hb78)
  replace hbw := hbw.trans (hb78.mono hbw.size)
  clear hb78 hb8
  go_wp2_with fail
  refine (sametxt_v _ _ [[97], [98]] [[97], [98]] _ HT4.out HT3.out (by decide) (by decide)).mono ?_
  rw [decide_eq_true rfl]
  rintro e w9 ⟨rfl, hb9⟩
  replace HT7 := Lib.hid (HT7.out.below hb9)
  replace hbw := hbw.trans (hb9.mono hbw.size)
  clear hb9
  go_wp2_with fail
  refine (sametxt_v _ _ [[49], [50]] [[49], [50]] _ (HT7.out.below (fst_below _)) (TxR.lit w9 [[49], [50]] _ rfl (by decide)) (by decide) (by decide)).mono ?_
  rw [decide_eq_true rfl]
  rintro e w10 ⟨rfl, hb10⟩
  replace hbw := hbw.trans ((fst_below (w := w9) _).mono hbw.size |>.trans (hb10.mono (Nat.le_trans hbw.size (fst_below (w := w9) _).size)))
  go_wp2_with fail
  go_ret
  exact ⟨rfl, hbw⟩
end Go.Proofs.Ytcnkljbckpkgcaa
