/- The walk over patoisref5.look and early: what they answer is Fine just where the plain function finds nothing amiss. Bounds on the lengths. -/
import Derived.Test.YthmeonimianoeaaDoorGB
import Derived.Test.YthmeonimianoeaaDoorCheckW
import Derived.Test.YthmeonimianoeaaDoorSeeW
import Derived.Test.YthmeonimianoeaaDoorGA
import Derived.Deep.CutRange
import Derived.Deep.CutBlock
import Derived.Outline
set_option linter.unusedVariables false
set_option linter.unusedSimpArgs false
namespace Go.Proofs.YthmeonimianoeaaDoor
open Go.RowKit

/-- It returns a fault, that is Fine or not. -/
def FRet (fine : Bool) (w : World) (e : Ending) (w' : World) : Prop := ∃ (c : Int) (A : Option Addr) (n k : Nat), e = .returned (.agg #[.int .i64 c, .slice A n k]) ∧ (c == 0) = fine ∧ Below w.heap.size w w'
def Look5Said (A : Option Addr) (cp : Nat) (L : List Nd) (d : Nat) : Prop := ∀ (i e : Nat) (word last : Bool) (w : World) (E : Int), i < e → e ≤ L.length → RdL w 5 ndc A L → E = (if last then (e : Int) else -1) →
    Calls Tryd.prog 45 #[.slice A L.length cp, .int .i64 i, .int .i64 E, .int .i64 e, .int .i64 ((31 : Int) - d), .bool (!word)] w (FRet (lookP L d i e word last).isNone w)
def Early5Said (A : Option Addr) (cp : Nat) (L : List Nd) (d : Nat) : Prop := ∀ (i bad : Nat) (x : Nd) (w : World), L[i]? = some x → 1 ≤ x.size → i + x.size.toNat ≤ L.length → ((1 ≤ x.kind ∧ x.kind ≤ 12) ∨ (20 ≤ x.kind ∧ x.kind ≤ 37)) → childrenB x.kind x.k = true → ((bad : Int) < x.k) → chainP L (i + x.size.toNat) bad (i + 1) → RdL w 5 ndc A L →
    Calls Tryd.prog 82 #[.slice A L.length cp, .int .i64 i, .int .i64 ((31 : Int) - d), .int .i64 bad] w (FRet false w)

theorem two_kids {kind K : Int} (h : childrenB kind K = true) : kind = 29 ∨ kind = 35 ∨ kind = 33 ∨ kind = 34 → K = 2 := by
  intro hk
  rcases hk with rfl | rfl | rfl | rfl <;> simpa [childrenB] using h
theorem kind_range {word : Bool} {kind : Int} (h : kindB word kind = true) : (1 ≤ kind ∧ kind ≤ 12) ∨ (20 ≤ kind ∧ kind ≤ 37) := by
  cases word
  · right; simpa [kindB, commandB] using h
  · left; simpa [kindB, wordB] using h
theorem fret_val {c : Int} {b : Bool} (h : (c == 0) = b) : ((c != 0) = !b) := by rw [bne, h]
/-- A cell for a fault, made in a region: a block of its own. -/
def cellF (B : Nat) : TT := ⟨fun v => ∃ g, v = .pointer (some ⟨g, 0, none⟩), ⟨_, 0, rfl⟩, fun v x => ∃ g, v = .pointer (some ⟨g, 0, none⟩) ∧ B ≤ g ∧ Blk x g 43 #[.int .i64 0, .slice none 0 0], fun _ _ _ ⟨g, h1, h2, h3⟩ hb => ⟨g, h1, h2, h3.below hb⟩⟩
def fretT (fine : Bool) : TT := ⟨fun v => ∃ (c : Int) (A : Option Addr) (n k : Nat), v = .agg #[.int .i64 c, .slice A n k] ∧ (c == 0) = fine, ⟨.agg #[.int .i64 (if fine then 0 else 1), .slice none 0 0], _, _, _, _, rfl, by cases fine <;> rfl⟩, fun _ _ => True, fun _ _ _ _ _ => trivial⟩

-- fret WORLD C A N K F: the fault is laid into the result's cell (HBK: its block in WORLD; HBW: what was there stands), and is returned

set_option maxRecDepth 100000 in
set_option maxHeartbeats 8000000 in
theorem early5_step (A : Option Addr) (cp : Nat) (L : List Nd) (hL : L.length ≤ 4000000) (hok : ∀ x ∈ L, NdOk x) (d : Nat) (hd : d ≤ 30) (ih : ∀ d', d = d' + 1 → Look5Said A cp L d') : Early5Said A cp L d := by
  intro i bad x w HXX hs1 hs2 hkr hch hbad hcn hrd
  obtain ⟨m, hml⟩ : ∃ m, m = L.length := ⟨_, rfl⟩
  have hiL : i < L.length := (List.getElem?_eq_some_iff.1 HXX).1
  have hx : x = L[i] := (List.getElem?_eq_some_iff.1 HXX).2.symm
  obtain ⟨hxs, hxk⟩ := hok x (by rw [hx]; exact List.getElem_mem _)
  obtain ⟨b, o, rfl, hbl⟩ := hrd.addr (by omega)
  have hcs := (hrd.at_ hiL).2
  rw [← hx] at hcs
  have hc0 := hcs 0 _ rfl
  have hc1 := hcs 1 _ rfl
  have hc2 := hcs 2 _ rfl
  have hc3 := hcs 3 _ rfl
  have hc4 := hcs 4 _ rfl
  simp only [Nat.add_zero] at hc0
  obtain ⟨xkind, xn, xk, xsize, xs⟩ := x
  simp only at hs1 hs2 hkr hch hbad hcn hxs hxk hc0 hc1 hc2 hc3 hc4
  have HTK := Lib.hid (two_kids hch)
  have hk0 := children_k hch
  obtain ⟨q, rfl⟩ : ∃ q : Nat, xsize = q := ⟨xsize.toNat, by omega⟩
  obtain ⟨K, rfl⟩ : ∃ K : Nat, xk = K := ⟨xk.toNat, by omega⟩
  simp only [Int.toNat_natCast] at hs2 hcn
  rw [← hml] at hL hs2 ⊢
  have him : i < m := by omega
  have hq1 : 1 ≤ q := by omega
  have HM := Lib.hid hml
  have HIH := Lib.hid ih
  have HCN := Lib.hid hcn
  have HKR := Lib.hid hkr
  clear hml hx hcs ih hok hcn hkr hch HXX hs1 hk0 hiL
  go_enter Tryd.func82, Tryd.ntmps82
  generalize hQQ : bodyPost Tryd.prog Tryd.f82 (FRet false w) = QQ
  have HQQ := Lib.hid hQQ
  clear hQQ
  go_upto_region 2 with (fail)
  obtain ⟨W0, hW0⟩ : ∃ W0, W0 = (w.alloc (.cells #[.int .i64 0, .slice none 0 0] 43)).alloc (.cells #[.int .i64 xkind, .int .i64 xn, .int .i64 K, .int .i64 q, .string ⟨xs.toArray⟩] 40) := ⟨_, rfl⟩
  rw [← hW0]
  have hb0 : Below w.heap.size w W0 := by rw [hW0]; exact below2 w _ _
  have hB0 : Blk W0 w.heap.size 43 #[.int .i64 0, .slice none 0 0] := by rw [hW0]; exact (Blk.new w _ _).below ((Below.refl _ _).alloc (Nat.le_refl _) _)
  have x0 : W0.cell? ⟨w.heap.size + 1, 0, none⟩ = some (.int .i64 xkind) := by rw [hW0]; exact cell_new1 w _ _ _ 0
  have x1 : W0.cell? ⟨w.heap.size + 1, 1, none⟩ = some (.int .i64 xn) := by rw [hW0]; exact cell_new1 w _ _ _ 1
  have x2 : W0.cell? ⟨w.heap.size + 1, 2, none⟩ = some (.int .i64 K) := by rw [hW0]; exact cell_new1 w _ _ _ 2
  have x3 : W0.cell? ⟨w.heap.size + 1, 3, none⟩ = some (.int .i64 q) := by rw [hW0]; exact cell_new1 w _ _ _ 3
  have x4 : W0.cell? ⟨w.heap.size + 1, 4, none⟩ = some (.string ⟨xs.toArray⟩) := by rw [hW0]; exact cell_new1 w _ _ _ 4
  have HRD := Lib.hid (hrd.below hb0)
  clear hW0 hc0 hc1 hc2 hc3 hc4 hrd
  generalize hg0 : w.heap.size = g0 at hB0 x0 x1 x2 x3 x4 ⊢
  have HG0 := Lib.hid (hg0)
  have HB0 := Lib.hid hB0
  have HBW0 := Lib.hid hb0
  clear hg0 hB0 hb0
  cases d with
  | zero =>
    go_wp2_with fail
    refine (placed_any 102 i _ (by decide)).mono ?_
    rintro e1 w1 ⟨v, rfl, ⟨A1, c1, rfl, _, _⟩, hb1⟩
    have HBK := Lib.hid (HB0.out.below hb1)
    have HBW := Lib.hid (HBW0.out.trans (hb1.mono HBW0.out.size))
    clear x0 x1 x2 x3 x4 hb1
    have hB := HBK.out
    have z0 := hB.cell 0
    have z1 := hB.cell 1
    have q0 := hB.frozen 0
    have q1 := hB.frozen 1
    have hB2 := (hB.set 0 (.int .i64 102)).set 1 (.slice A1 1 c1)
    have e0 := hB2.cell 0
    have e1 := hB2.cell 1
    simp only [List.getElem?_toArray, List.getElem?_cons_zero, List.getElem?_cons_succ, List.setIfInBounds_toArray, List.set_cons_succ, List.set_cons_zero] at e0 e1 z0 z1
    have E0 := Lib.hid e0
    have E1 := Lib.hid e1
    have EF := Lib.hid (show Below w.heap.size w ((w1.setCell ⟨g0, 0, none⟩ (.int .i64 102)).setCell ⟨g0, 1, none⟩ (.slice A1 1 c1)) from (HBW.out.setCell (Nat.le_of_eq HG0.out) _).setCell (Nat.le_of_eq HG0.out) _)
    clear e0 e1 hB2 hB
    go_wp2_with fail
    rw [← HQQ.out]
    refine bodyPost_ret (v := .agg #[.int .i64 102, .slice A1 1 c1]) ?_ rfl ⟨_, _, _, _, rfl, rfl, EF.out⟩
    have e0 := E0.out
    have e1 := E1.out
    generalize ((w1.setCell ⟨g0, 0, none⟩ (.int .i64 102)).setCell ⟨g0, 1, none⟩ (.slice A1 1 c1)) = WF at *
    simp [results, go_sem, e0, e1, Tryd.results45, Tryd.results82, Tryd.results18]
  | succ d =>
    have HS := Lib.hid (HIH.out d rfl)
    clear HIH
    have hd30 : d ≤ 29 := by omega
    go_wp2_with fail
    go_loopw [10, 11] (fun c j wr => ∃ kk cc : Nat, c = .int .i64 cc ∧ j = .int .i64 kk ∧ kk ≤ bad ∧ kk ≤ cc ∧ cc < i + q ∧ Below W0.heap.size W0 wr ∧ Hid (chainP L (i + q) (bad - kk) cc)) (fun c j _ => (bad + 1 - (intOf j).toNat))
    case atStart => exact ⟨0, i + 1, by go_num, rfl, Nat.zero_le _, Nat.zero_le _, chain_lt HCN.out, Below.refl _ _, HCN⟩
    case round =>
      obtain ⟨kk, cc, rfl, rfl, hk1, hk2, hce, hbr, HC⟩ := hrel
      have hcl : cc < m := by omega
      have hcl' : cc < L.length := by rw [← HM.out]; exact hcl
      have hiqL : i + q ≤ L.length := by rw [← HM.out]; exact hs2
      have y0 := cell_keep hbr x0
      have y2 := cell_keep hbr x2
      have y3 := cell_keep hbr x3
      have HRD2 := Lib.hid (HRD.out.below hbr)
      obtain ⟨tk, htk⟩ : ∃ tk, tk = takesB xkind K kk := ⟨_, rfl⟩
      have TK := Lib.hid (show ∀ W, Calls Tryd.prog 83 #[.int .i64 xkind, .int .i64 kk, .int .i64 K] W (Ret W (.bool (!tk))) from fun W => by
        have h := command5_any xkind K kk W HKR.out (by omega) hxk (by omega) (by omega) HTK.out
        rw [← htk] at h
        exact h.mono fun e w' ⟨h1, h2⟩ => ⟨h1, h2 ▸ Below.refl _ _⟩)
      obtain ⟨r, hr⟩ : ∃ r, r = (lookP L d cc (i + q) tk false).isNone := ⟨_, rfl⟩
      have SK := Lib.hid (show ∀ W, RdL W 5 ndc (some ⟨b, o, none⟩) L → Calls Tryd.prog 45 #[.slice (some ⟨b, o, none⟩) m cp, .int .i64 cc, .int .i64 (-1), .int .i64 ((i : Int) + q), .int .i64 ((31 : Int) - ((d : Int) + 1) + 1), .bool (!tk)] W (FRet r W) from fun W h1 => by
        have h3 := HS.out cc (i + q) tk false W (-1) hce hiqL h1 rfl
        rw [← hr, ← HM.out, Int.natCast_add] at h3
        rw [show (31 : Int) - ((d : Int) + 1) + 1 = 31 - (d : Int) by omega]
        exact h3)
      have HR := Lib.hid (show r = true → 1 ≤ L[cc].size ∧ L[cc].size ≤ ((i + q : Nat) : Int) - cc from fun hz => by
        have hf := lookP_fits (d := d) (e := i + q) (word := tk) (last := false) hcl' (Option.isNone_iff_eq_none.1 (by rw [← hr, hz]))
        exact ⟨hf.1, hf.2.1⟩)
      clear htk hr HS
      go_upto_region 8 with (fail)
      go_cut [12] from 28 to 42 (fun v wx => ∃ (g : Nat) (c : Int) (A : Option Addr) (n k : Nat), v = .pointer (some ⟨g, 0, none⟩) ∧ wx.cell? ⟨g, 0, none⟩ = some (.int .i64 c) ∧ wx.cell? ⟨g, 1, none⟩ = some (.slice A n k) ∧ (c == 0) = r ∧ Below wr.heap.size wr wx)
      case first =>
        apply wp_region_relA 16 [eqT _, eqT _, eqT _, eqT _, eqT _, eqT _, eqT _, eqT _, eqT _, eqT _, eqT _, eqT _, eqT _, eqT _, fretT r, cellF wr.heap.size] (by kernel_rfl) (by kernel_rfl) (by kernel_rfl) rfl
        focus
          refine ⟨?_, ?_⟩
          focus
            unfold opGoal
            rw [if_pos (by kernel_rfl)]
            intro x hb hd K hk
            clear hd
            go_wp2_with fail
            exact hk _ _ rfl trivial (Below.refl _ _)
          rintro _ rfl
          simp only [Act.put, List.setIfInBounds_toArray, List.set_cons_succ, List.set_cons_zero]
          refine ⟨?_, ?_⟩
          focus
            unfold opGoal
            rw [if_pos (by kernel_rfl)]
            intro x hb hd K hk
            clear hd
            go_wp2_with fail
            exact hk _ _ rfl trivial (Below.refl _ _)
          rintro _ rfl
          simp only [Act.put, List.setIfInBounds_toArray, List.set_cons_succ, List.set_cons_zero]
          refine ⟨?_, ?_⟩
          focus
            unfold opGoal
            rw [if_pos (by kernel_rfl)]
            intro x hb hd K hk
            clear hd
            go_wp2_with fail
            exact hk _ _ rfl trivial (Below.refl _ _)
          rintro _ rfl
          simp only [Act.put, List.setIfInBounds_toArray, List.set_cons_succ, List.set_cons_zero]
          refine ⟨?_, ?_⟩
          focus
            unfold opGoal
            rw [if_pos (by kernel_rfl)]
            intro x hb hd K hk
            clear hd
            go_wp2_with fail
            exact hk _ _ rfl trivial (Below.refl _ _)
          rintro _ rfl
          simp only [Act.put, List.setIfInBounds_toArray, List.set_cons_succ, List.set_cons_zero]
          refine ⟨?_, ?_⟩
          focus
            unfold opGoal
            rw [if_pos (by kernel_rfl)]
            intro x hb hd K hk
            clear hd
            have l0 := cell_keep hb y3
            go_wp2_with fail
            exact hk _ _ rfl trivial (Below.refl _ _)
          rintro _ rfl
          simp only [Act.put, List.setIfInBounds_toArray, List.set_cons_succ, List.set_cons_zero]
          refine ⟨?_, ?_⟩
          focus
            unfold opGoal
            rw [if_pos (by kernel_rfl)]
            intro x hb hd K hk
            clear hd
            go_wp2_with fail
            exact hk _ _ rfl trivial (Below.refl _ _)
          rintro _ rfl
          simp only [Act.put, List.setIfInBounds_toArray, List.set_cons_succ, List.set_cons_zero]
          refine ⟨?_, ?_⟩
          focus
            unfold opGoal
            rw [if_pos (by kernel_rfl)]
            intro x hb hd K hk
            clear hd
            go_wp2_with fail
            exact hk _ _ rfl trivial (Below.refl _ _)
          rintro _ rfl
          simp only [Act.put, List.setIfInBounds_toArray, List.set_cons_succ, List.set_cons_zero]
          refine ⟨?_, ?_⟩
          focus
            unfold opGoal
            rw [if_pos (by kernel_rfl)]
            intro x hb hd K hk
            clear hd
            go_wp2_with fail
            exact hk _ _ rfl trivial (Below.refl _ _)
          rintro _ rfl
          simp only [Act.put, List.setIfInBounds_toArray, List.set_cons_succ, List.set_cons_zero]
          refine ⟨?_, ?_⟩
          focus
            unfold opGoal
            rw [if_pos (by kernel_rfl)]
            intro x hb hd K hk
            clear hd
            go_wp2_with fail
            exact hk _ _ rfl trivial (Below.refl _ _)
          rintro _ rfl
          simp only [Act.put, List.setIfInBounds_toArray, List.set_cons_succ, List.set_cons_zero]
          refine ⟨?_, ?_⟩
          focus
            unfold opGoal
            rw [if_pos (by kernel_rfl)]
            intro x hb hd K hk
            clear hd
            have l0 := cell_keep hb y0
            go_wp2_with fail
            exact hk _ _ rfl trivial (Below.refl _ _)
          rintro _ rfl
          simp only [Act.put, List.setIfInBounds_toArray, List.set_cons_succ, List.set_cons_zero]
          refine ⟨?_, ?_⟩
          focus
            unfold opGoal
            rw [if_pos (by kernel_rfl)]
            intro x hb hd K hk
            clear hd
            go_wp2_with fail
            exact hk _ _ rfl trivial (Below.refl _ _)
          rintro _ rfl
          simp only [Act.put, List.setIfInBounds_toArray, List.set_cons_succ, List.set_cons_zero]
          refine ⟨?_, ?_⟩
          focus
            unfold opGoal
            rw [if_pos (by kernel_rfl)]
            intro x hb hd K hk
            clear hd
            go_wp2_with fail
            exact hk _ _ rfl trivial (Below.refl _ _)
          rintro _ rfl
          simp only [Act.put, List.setIfInBounds_toArray, List.set_cons_succ, List.set_cons_zero]
          refine ⟨?_, ?_⟩
          focus
            unfold opGoal
            rw [if_pos (by kernel_rfl)]
            intro x hb hd K hk
            clear hd
            have l0 := cell_keep hb y2
            go_wp2_with fail
            exact hk _ _ rfl trivial (Below.refl _ _)
          rintro _ rfl
          simp only [Act.put, List.setIfInBounds_toArray, List.set_cons_succ, List.set_cons_zero]
          refine ⟨?_, ?_⟩
          focus
            unfold opGoal
            rw [if_pos (by kernel_rfl)]
            intro x hb hd K hk
            clear hd
            go_wp2_with fail
            refine (Hid.out TK x).mono ?_
            rintro e x' ⟨rfl, hb'⟩
            exact hk _ _ rfl trivial hb'
          rintro _ rfl
          simp only [Act.put, List.setIfInBounds_toArray, List.set_cons_succ, List.set_cons_zero]
          refine ⟨?_, ?_⟩
          focus
            unfold opGoal
            rw [if_pos (by kernel_rfl)]
            intro x hb hd K hk
            clear hd
            go_wp2_with fail
            refine (SK.out x (HRD2.out.below hb)).mono ?_
            rintro e9 w9 ⟨c, A, n, k, rfl, hc, hb9⟩
            exact hk _ _ ⟨c, A, n, k, rfl, hc⟩ trivial hb9
          rintro _ ⟨c9, A9, n9, k9, rfl, hc9⟩
          simp only [Act.put, List.setIfInBounds_toArray, List.set_cons_succ, List.set_cons_zero]
          refine ⟨?_, ?_⟩
          focus
            unfold opGoal
            rw [if_pos (by kernel_rfl)]
            intro x hb hd K hk
            clear hd
            go_wp2_with fail
            exact hk _ _ ⟨_, rfl⟩ ⟨_, rfl, hb.size, Blk.new _ _ _⟩ ((Below.refl _ _).alloc (Nat.le_refl _) _)
          rintro _ ⟨g9, rfl⟩
          simp only [Act.put, List.setIfInBounds_toArray, List.set_cons_succ, List.set_cons_zero]
          intro x hbx hall
          simp only [List.drop_succ_cons, List.drop_zero]
          have hcf : ∃ g, Value.pointer (some ⟨g9, 0, none⟩) = .pointer (some ⟨g, 0, none⟩) ∧ wr.heap.size ≤ g ∧ Blk x g 43 #[.int .i64 0, .slice none 0 0] := hall 15 _ _ rfl rfl
          clear hall
          obtain ⟨g, he, hge, hB⟩ := hcf
          simp only [Value.pointer.injEq, Option.some.injEq, Addr.mk.injEq, and_true] at he
          subst he
          have z0 := hB.cell 0
          have z1 := hB.cell 1
          have q0 := hB.frozen 0
          have q1 := hB.frozen 1
          have hB2 := (hB.set 0 (.int .i64 c9)).set 1 (.slice A9 n9 k9)
          have e0 := hB2.cell 0
          have e1 := hB2.cell 1
          simp only [List.getElem?_toArray, List.getElem?_cons_zero, List.getElem?_cons_succ, List.setIfInBounds_toArray, List.set_cons_succ, List.set_cons_zero] at e0 e1 z0 z1
          have E0 := Lib.hid e0
          have E1 := Lib.hid e1
          have EF := Lib.hid (show Below wr.heap.size wr ((x.setCell ⟨g9, 0, none⟩ (.int .i64 c9)).setCell ⟨g9, 1, none⟩ (.slice A9 n9 k9)) from (hbx.setCell hge _).setCell hge _)
          have HC9 := Lib.hid hc9
          clear e0 e1 hB2 hB hc9 hbx
          go_wp2_with fail
          go_meet
          exact ⟨g9, c9, A9, n9, k9, rfl, E0.out, E1.out, HC9.out, EF.out⟩
      case rest =>
        obtain ⟨g, c, A, n, k, rfl, f0, f1, hc, hb2⟩ := hcut
        have hcs := cell_keep (hbr.trans (hb2.mono hbr.size)) ((HRD.out.at_ hcl').2 3 _ rfl)
        replace hbr := hbr.trans (hb2.mono hbr.size)
        cases r
        case true =>
          obtain rfl : c = 0 := by simpa using hc
          have HR2 := Lib.hid (HR.out rfl)
          have HN : bad - kk = 0 ∨ ∃ s, bad - kk = s + 1 ∧ chainP L (i + q) s (cc + L[cc].size.toNat) := by
            rcases hbk : bad - kk with _ | s
            · exact .inl rfl
            · exact .inr ⟨s, rfl, (chain_at (by rw [← hbk]; exact HC.out) hcl').2⟩
          have HL0 := Lib.hid (show bad - kk ≠ 0 from fun h0 => by
            have h1 := chain_at0 (by rw [← h0]; exact HC.out) hcl'
            have h2 := HR2.out
            omega)
          have HN2 := Lib.hid HN
          clear HN HR HC
          generalize L[cc].size = sz at *
          have hz1 : 1 ≤ sz := HR2.out.1
          have hz2 : sz ≤ ((i + q : Nat) : Int) - cc := HR2.out.2
          clear HR2
          obtain ⟨z, rfl⟩ : ∃ z : Nat, sz = z := ⟨sz.toNat, by omega⟩
          simp only [Int.toNat_natCast] at HN2
          have hkb : kk < bad := by have := HL0.out; omega
          have hch : chainP L (i + q) (bad - (kk + 1)) (cc + z) := by
            rcases HN2.out with h | ⟨s, h, hch⟩
            · omega
            · rw [show bad - (kk + 1) = s by omega]; exact hch
          have hlt := chain_lt hch
          have HCH := Lib.hid hch
          clear hch HN2
          go_wp2_with fail
          go_roundw
          case rel => exact ⟨kk + 1, cc + z, by go_num, by go_num, by omega, by omega, hlt, hbr, HCH⟩
          case measure => simp [intOf]; omega
        case false =>
          have hcn : (c != 0) = true := by rw [bne, hc]; rfl
          have HBK := Lib.hid (HB0.out.below hbr)
          have HBW := Lib.hid (HBW0.out.trans (hbr.mono HBW0.out.size))
          clear HR HC TK SK hcs hbr hb2 y0 y2 y3 x0 x1 x2 x3 x4
          have hB := HBK.out
          have z0 := hB.cell 0
          have z1 := hB.cell 1
          have q0 := hB.frozen 0
          have q1 := hB.frozen 1
          have hB2 := (hB.set 0 (.int .i64 c)).set 1 (.slice A n k)
          have e0 := hB2.cell 0
          have e1 := hB2.cell 1
          simp only [List.getElem?_toArray, List.getElem?_cons_zero, List.getElem?_cons_succ, List.setIfInBounds_toArray, List.set_cons_succ, List.set_cons_zero] at e0 e1 z0 z1
          have E0 := Lib.hid e0
          have E1 := Lib.hid e1
          have EF := Lib.hid (show Below w.heap.size w ((wc.setCell ⟨g0, 0, none⟩ (.int .i64 c)).setCell ⟨g0, 1, none⟩ (.slice A n k)) from (HBW.out.setCell (Nat.le_of_eq HG0.out) _).setCell (Nat.le_of_eq HG0.out) _)
          clear e0 e1 hB2 hB
          go_wp2_with fail
          rw [← HQQ.out]
          refine bodyPost_ret (v := .agg #[.int .i64 c, .slice A n k]) ?_ rfl ⟨_, _, _, _, rfl, hc, EF.out⟩
          have e0 := E0.out
          have e1 := E1.out
          generalize ((wc.setCell ⟨g0, 0, none⟩ (.int .i64 c)).setCell ⟨g0, 1, none⟩ (.slice A n k)) = WF at *
          simp [results, go_sem, e0, e1, Tryd.results45, Tryd.results82, Tryd.results18]
end Go.Proofs.YthmeonimianoeaaDoor
