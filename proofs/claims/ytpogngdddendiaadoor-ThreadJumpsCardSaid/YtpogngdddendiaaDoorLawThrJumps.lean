/- The walk over ThreadJumps. A bound on the length that any slice keeps. -/
import Derived.Test.YtpogngdddendiaaDoorThrX
import Derived.Test.YtpogngdddendiaaDoorGW
import Derived.Deep.CutRange
set_option linter.unusedVariables false
set_option linter.unusedSimpArgs false
namespace Go.Proofs.YtpogngdddendiaaDoor
open Go.RowKit

/-- The passed code, and what of it is reached. -/
structure TjW (w0 w : World) (g5 gd cd gr b0 : Nat) (Y : List Ins) : Prop where
  k : Blk w g5 29 #[.slice (some ⟨gd, 0, none⟩) Y.length cd, .int .i64 0]
  y : RdL w 4 insc (some ⟨gd, 0, none⟩) Y
  r : rowB w b0 gr Y.length (reachL (tgN Y) Y.length)
  b : Below w0.heap.size w0 w
theorem TjW.below {w0 w w' : World} {g5 gd cd gr b0 : Nat} {Y : List Ins} (h : TjW w0 w g5 gd cd gr b0 Y) (hb : Below w.heap.size w w') : TjW w0 w' g5 gd cd gr b0 Y :=
  ⟨h.k.below hb, h.y.below hb, h.r.below hb, h.b.trans (hb.mono h.b.size)⟩
theorem fix_str {Y : List Ins} (hok : okC Y) (h : onceX Y = Y) : straightX Y = Y ∧ ∀ i, i < Y.length - 1 → reachB Y i = true := by
  obtain ⟨h1, h2⟩ := once_same hok (by rw [h])
  have h3 : straightX Y = Y := by rw [← h1, h]
  rw [h3] at h2
  exact ⟨h3, h2⟩
theorem last_of {Y : List Ins} (h : okC Y) : ∀ h2 : Y.length - 1 < Y.length, Y[Y.length - 1].op = 41 ∨ Y[Y.length - 1].op = 40 ∨ Y[Y.length - 1].op = 18 := fun h2 => by
  obtain ⟨x, hx, he⟩ := h.last
  rw [List.getElem?_eq_getElem h2] at hx
  injection hx with hx
  rw [hx]
  exact he
theorem measJ {k m : Nat} (h : k < m) : m - (intOf (.int .i64 ((k : Int) + 1))).toNat < m - (intOf (.int .i64 (k : Int))).toNat := by
  show m - ((k : Int) + 1).toNat < m - ((k : Int)).toNat
  omega
/-- A place of a straight code: it is in it; it is no jump, or on a cycle. -/
theorem place_at {Y : List Ins} {v : Int} {p : Bool} (hin : p = true → 0 ≤ v ∧ v < Y.length) (hs : p = true → jmp Y v.toNat = none ∨ Cyc Y v.toNat) (h0 : 0 < Y.length) :
    ∃ (q : Nat) (y : Ins) (t : Bool), q < Y.length ∧ Y[q]? = some y ∧ (y.op == 18) = t ∧ (p = true → v = q) ∧ (p = true → t = true → Cyc Y q) := by
  cases p with
  | false =>
    obtain ⟨y, hy⟩ := at_some h0
    exact ⟨0, y, _, h0, hy, rfl, fun h => (by cases h), fun h => (by cases h)⟩
  | true =>
    have h1 := hin rfl
    obtain ⟨y, hy⟩ := at_some (X := Y) (i := v.toNat) (by omega)
    refine ⟨v.toNat, y, _, by omega, hy, rfl, fun _ => by omega, fun _ ht => ?_⟩
    rcases hs rfl with h | h
    · rw [jmp_of hy, if_pos (by simpa using ht)] at h
      cases h
    · exact h
set_option maxRecDepth 100000 in
set_option maxHeartbeats 8000000 in
theorem thrjumps_walk (A : Option Addr) (c : Nat) (L : List Ins) (w : World) (hrd : RdL w 4 insc A L) (hX : L.length ≤ 9223372036854775807) (hin : ∀ y ∈ L, InI y.op ∧ InI y.a ∧ InI y.b) :
    Calls Tryd.prog 4 #[.slice A L.length c] w (Ret w (.bool true)) := by
  have HF := Lib.hid (first24_any w)
  have HRD := Lib.hid hrd
  have HIN := Lib.hid hin
  obtain ⟨l, hl⟩ : ∃ l, L.length = l := ⟨_, rfl⟩
  have HL := Lib.hid hl
  rw [hl] at hX ⊢
  clear hl hrd hin
  go_enter Tryd.func4, Tryd.ntmps4
  go_wp2_with fail
  refine HF.out.mono ?_
  rintro e w1 ⟨rfl, hb1⟩
  have HB1 := Lib.hid hb1
  clear hb1 HF
  by_cases h60 : (60 : Int) < (l : Int)
  · go_wp2_with fail
    go_ret
    exact ⟨rfl, HB1.out⟩
  have hl60 : l ≤ 60 := by omega
  have hd60 : decide ((60 : Int) < (l : Int)) = false := decide_eq_false h60
  have HOK := Lib.hid (madeX_ok (L := L) (by rw [HL.out]; exact hl60))
  have HM := Lib.hid (made24_any L A c w1 (by rw [HL.out]; exact hl60) (HRD.out.below HB1.out) HIN.out)
  rw [HL.out] at HM
  obtain ⟨X, hXd⟩ : ∃ X, madeX L = X := ⟨_, rfl⟩
  rw [hXd] at HM HOK
  clear hXd HRD HIN
  obtain ⟨n0, hn0⟩ : ∃ n, X.length = n := ⟨_, rfl⟩
  have HN0 := Lib.hid hn0
  clear hn0
  go_upto_region 4 with (fail)
  go_wp2_with fail
  refine HM.out.mono ?_
  rintro e w2 ⟨gl, cl, rfl, ho2, hb2⟩
  rw [HN0.out]
  have HO2 := Lib.hid (rdI_of ho2 rfl)
  have HB2 := Lib.hid (HB1.out.trans (hb2.mono HB1.out.size))
  clear ho2 hb2 HM HB1
  go_upto_region 5 with (fail)
  obtain ⟨W3, hW3⟩ : ∃ W3, W3 = w2.alloc (.cells #[.slice (some ⟨gl, 0, none⟩) n0 cl, .int .i64 0] 29) := ⟨_, rfl⟩
  have hb3 : Below w2.heap.size w2 W3 := by rw [hW3]; exact (Below.refl _ _).alloc (Nat.le_refl _) _
  have HK3 := Lib.hid (show Blk W3 w2.heap.size 29 #[.slice (some ⟨gl, 0, none⟩) n0 cl, .int .i64 0] by rw [hW3]; exact Blk.new w2 _ _)
  have HO3 := Lib.hid (HO2.out.below hb3)
  have HB3 := Lib.hid (HB2.out.trans (hb3.mono HB2.out.size))
  rw [← hW3]
  clear hW3 hb3 HO2 HB2
  generalize w2.heap.size = g4 at *
  have z0 := HK3.out.cell 0
  have z1 := HK3.out.cell 1
  simp only [List.getElem?_toArray, List.getElem?_cons_zero, List.getElem?_cons_succ] at z0 z1
  have HCK := Lib.hid (ccheck_fine (some ⟨gl, 0, none⟩) cl 0 X W3 HOK.out.pos HOK.out.most (by decide) HOK.out.ok (last_of HOK.out) HO3.out)
  rw [HN0.out, show ((0 : Nat) : Int) = 0 from rfl] at HCK
  go_wp2_with fail
  refine HCK.out.mono ?_
  rintro e w4 ⟨rfl, hb4⟩
  have HK4 := Lib.hid (HK3.out.below hb4)
  have HO4 := Lib.hid (HO3.out.below hb4)
  have HB4 := Lib.hid (HB3.out.trans (hb4.mono HB3.out.size))
  clear z0 z1 HCK hb4 HK3 HO3 HB3
  have z0 := HK4.out.cell 0
  have z1 := HK4.out.cell 1
  simp only [List.getElem?_toArray, List.getElem?_cons_zero, List.getElem?_cons_succ] at z0 z1
  have HPS := Lib.hid (pass_any gl 0 cl X 0 w4 HO4.out HOK.out (by decide))
  rw [HN0.out, show ((0 : Nat) : Int) = 0 from rfl] at HPS
  go_wp2_with fail
  refine HPS.out.mono ?_
  rintro e w5 ⟨gd, cd, Y, rfl, ho5, hpt5, hb5⟩
  have HPT := Lib.hid hpt5
  have HOY := Lib.hid (hpt5.ok HOK.out)
  have HLE := Lib.hid hpt5.le
  have HD5 := Lib.hid (rdI_of ho5 rfl)
  have HK5 := Lib.hid (HK4.out.below hb5)
  have HB5 := Lib.hid (HB4.out.trans (hb5.mono HB4.out.size))
  obtain ⟨n, hn⟩ : ∃ n, Y.length = n := ⟨_, rfl⟩
  have HN := Lib.hid hn
  have hnp : 0 < n := by rw [← hn]; exact HOY.out.pos
  have hn9 : n ≤ 9000 := by rw [← hn]; exact HOY.out.most
  have hnn : ¬ (n0 : Int) < (n : Int) := by have := HLE.out; rw [HN0.out, hn] at this; omega
  rw [hn]
  clear hn ho5 hpt5 hb5 HPS z0 z1 HK4 HO4 HB4 HLE
  go_upto_region 8 with (fail)
  obtain ⟨W6, hW6⟩ : ∃ W6, W6 = w5.alloc (.cells #[.slice (some ⟨gd, 0, none⟩) n cd, .int .i64 0] 29) := ⟨_, rfl⟩
  have hb6 : Below w5.heap.size w5 W6 := by rw [hW6]; exact (Below.refl _ _).alloc (Nat.le_refl _) _
  have HE6 := Lib.hid (show Blk W6 w5.heap.size 29 #[.slice (some ⟨gd, 0, none⟩) n cd, .int .i64 0] by rw [hW6]; exact Blk.new w5 _ _)
  have HD6 := Lib.hid (HD5.out.below hb6)
  have HK6 := Lib.hid (HK5.out.below hb6)
  have HB6 := Lib.hid (HB5.out.trans (hb6.mono HB5.out.size))
  rw [← hW6]
  clear hW6 hb6 HD5 HK5 HB5
  generalize w5.heap.size = g5 at *
  have e0 := HE6.out.cell 0
  have e1 := HE6.out.cell 1
  simp only [List.getElem?_toArray, List.getElem?_cons_zero, List.getElem?_cons_succ] at e0 e1
  have HCK := Lib.hid (ccheck_fine (some ⟨gd, 0, none⟩) cd 0 Y W6 HOY.out.pos HOY.out.most (by decide) HOY.out.ok (last_of HOY.out) HD6.out)
  rw [HN.out, show ((0 : Nat) : Int) = 0 from rfl] at HCK
  go_wp2_with fail
  refine HCK.out.mono ?_
  rintro e w7 ⟨rfl, hb7⟩
  have HE7 := Lib.hid (HE6.out.below hb7)
  have HK7 := Lib.hid (HK6.out.below hb7)
  have HD7 := Lib.hid (HD6.out.below hb7)
  have HB7 := Lib.hid (HB6.out.trans (hb7.mono HB6.out.size))
  clear e0 e1 HCK hb7 HE6 HD6 HK6 HB6
  have e0 := HE7.out.cell 0
  have e1 := HE7.out.cell 1
  have z0 := HK7.out.cell 0
  have z1 := HK7.out.cell 1
  simp only [List.getElem?_toArray, List.getElem?_cons_zero, List.getElem?_cons_succ] at e0 e1 z0 z1
  have HR := Lib.hid (reached_any (some ⟨gd, 0, none⟩) cd Y 0 w7 HD7.out HOY.out.pos HOY.out.most)
  rw [HN.out] at HR
  go_wp2_with fail
  refine HR.out.mono ?_
  rintro e w8 ⟨gr, rfl, hr8, hb8⟩
  have HS := Lib.hid (show TjW w w8 g5 gd cd gr w7.heap.size Y from ⟨by rw [HN.out]; exact HE7.out.below hb8, HD7.out.below hb8, hr8, HB7.out.trans (hb8.mono HB7.out.size)⟩)
  rw [HN.out]
  clear e0 e1 z0 z1 HR hr8 hb8 HE7 HK7 HD7 HB7 hnn
  generalize w7.heap.size = b0 at *
  have e0 := HS.out.k.cell 0
  simp only [List.getElem?_toArray, List.getElem?_cons_zero] at e0
  rw [HN.out] at e0
  have HFX := Lib.hid (fix_str HOY.out HPT.out.end_)
  have JC := Lib.hid (fun (op : Int) (W : World) => jumps_any op W)
  go_wp2_with fail
  clear e0
  go_loopw [7] (fun v wr => ∃ k : Nat, k ≤ n ∧ v = .int .i64 k ∧ Hid (TjW w wr g5 gd cd gr b0 Y)) (fun v _ => n - (intOf v).toNat)
  case atStart => exact ⟨0, Nat.zero_le _, rfl, HS⟩
  case round =>
    clear HS
    obtain ⟨k, hk, rfl, HS⟩ := hrel
    by_cases hlt : k < n
    · have hkL : k < Y.length := by rw [HN.out]; exact hlt
      obtain ⟨x, hx⟩ := at_some hkL
      have hcell := (HS.out.y.at_ hkL).2
      rw [getElem_of? hkL hx] at hcell
      have c0 := hcell 0 _ rfl
      have e0 := HS.out.k.cell 0
      simp only [List.getElem?_toArray, List.getElem?_cons_zero, Nat.add_zero, Nat.zero_add] at c0 e0
      rw [HN.out] at e0
      have HX := Lib.hid hx
      clear hcell hx hkL
      go_wp2_with fail
      refine (JC.out x.op wr).mono ?_
      rintro e w9 ⟨rfl, hb9⟩
      replace HS := Lib.hid (HS.out.below hb9)
      clear hb9 c0 e0
      obtain ⟨pa, hpa⟩ : ∃ pa, placeA x.op = pa := ⟨_, rfl⟩
      obtain ⟨pb, hpb⟩ : ∃ pb, placeB x.op = pb := ⟨_, rfl⟩
      rw [hpa, hpb]
      have HPP := Lib.hid (HOY.out.pr x (List.mem_of_getElem? HX.out))
      have HST := Lib.hid (str_fix HOY.out.pr HFX.out.1 HX.out)
      rw [hpa, hpb] at HPP HST
      obtain ⟨qa, ya, ta, hqa, hya, hta, hva, hca⟩ := place_at HPP.out.1 HST.out.1 HOY.out.pos
      obtain ⟨qb, yb, tb, hqb, hyb, htb, hvb, hcb⟩ := place_at HPP.out.2 HST.out.2 HOY.out.pos
      have HVA := Lib.hid hva
      have HVB := Lib.hid hvb
      have HCA := Lib.hid hca
      have HCB := Lib.hid hcb
      have HYA := Lib.hid hya
      have HYB := Lib.hid hyb
      have HQA := Lib.hid hqa
      have HQB := Lib.hid hqb
      rw [HN.out] at hqa hqb
      clear hva hvb hca hcb hya hyb hpa hpb HPP HST
      obtain ⟨rb, hrb⟩ : ∃ rb, reachB Y k = rb := ⟨_, rfl⟩
      have hget := reachL_get (X := Y) (n := Y.length) (by rw [HN.out]; exact hlt)
      rw [hrb] at hget
      have r0 := HS.out.r.cell hget
      have HRB := Lib.hid (show rb = true ∨ ¬ k < n - 1 by
        by_cases h : k < n - 1
        · left; rw [← hrb]; exact HFX.out.2 k (by rw [HN.out]; exact h)
        · exact .inr h)
      have e0 := HS.out.k.cell 0
      simp only [List.getElem?_toArray, List.getElem?_cons_zero] at e0
      rw [HN.out] at e0
      have hkk : decide ((k : Int) < (n : Int) - 1) = decide (k < n - 1) := by
        congr 1
        exact propext (by omega)
      clear hget hrb
      go_upto_region 17 with (fail)
      go_cut [84] from 72 to 84 (fun v wx => v = .bool false ∧ w9 = wx)
      case first =>
        rcases HRB.out with hr | hr
        · subst hr
          go_wp2_with fail
          go_meet
          exact ⟨rfl, rfl⟩
        · cases rb
          · have hr2 : ¬ (k : Int) < (n : Int) - 1 := by omega
            go_wp2_with fail
            go_meet
            exact ⟨by simp [hr2], rfl⟩
          · go_wp2_with fail
            go_meet
            exact ⟨rfl, rfl⟩
      case rest =>
      obtain ⟨rfl, rfl⟩ := hcut
      clear r0 e0 hkk HRB
      have h0 := HS.out.k.cell 0
      have h1 := HS.out.k.cell 1
      simp only [List.getElem?_toArray, List.getElem?_cons_zero, List.getElem?_cons_succ] at h0 h1
      rw [HN.out] at h0
      have z0 := Later.cell h0
      have z1 := Later.cell h1
      have hcell := (HS.out.y.at_ (show k < Y.length by rw [HN.out]; exact hlt)).2
      rw [getElem_of? (by rw [HN.out]; exact hlt) HX.out] at hcell
      have y1 := Later.cell (hcell 1 _ rfl)
      have y2 := Later.cell (hcell 2 _ rfl)
      have hca := (HS.out.y.at_ HQA.out).2 0 _ rfl
      rw [getElem_of? HQA.out HYA.out] at hca
      have hcb := (HS.out.y.at_ HQB.out).2 0 _ rfl
      rw [getElem_of? HQB.out HYB.out] at hcb
      have ca := Later.cell hca
      have cb := Later.cell hcb
      simp only [Nat.add_zero, Nat.zero_add] at y1 y2 ca cb
      have HJA := Lib.hid (fun (W : World) (hb : Below w9.heap.size w9 W) => jump24_any (some ⟨gd, 0, none⟩) cd qa 0 Y W (HS.out.y.below hb) HOY.out.most HOY.out.pr HQA.out)
      have HJB := Lib.hid (fun (W : World) (hb : Below w9.heap.size w9 W) => jump24_any (some ⟨gd, 0, none⟩) cd qb 0 Y W (HS.out.y.below hb) HOY.out.most HOY.out.pr HQB.out)
      rw [HN.out] at HJA HJB
      clear h0 h1 hcell hca hcb HX HYA HYB
      go_upto_region 19 with (fail)
      refine wp_region_eq (by kernel_rfl) (by kernel_rfl) ?_
      cases pa with
      | false =>
        apply EqGo.run
        focus
          kernel_rfl
        focus
          intro x K hK
          go_wp2_with fail
          first | exact hK x (Below.refl _ _) | exact Below.refl _ _
        simp only [Act.put, List.setIfInBounds_toArray, List.set_cons_succ, List.set_cons_zero]
        apply EqGo.run
        focus
          kernel_rfl
        focus
          intro x K hK
          go_wp2_with fail
          first | exact hK x (Below.refl _ _) | exact Below.refl _ _
        simp only [Act.put, List.setIfInBounds_toArray, List.set_cons_succ, List.set_cons_zero]
        apply EqGo.skip
        focus
          kernel_rfl
        simp only [Act.put, List.setIfInBounds_toArray, List.set_cons_succ, List.set_cons_zero]
        apply EqGo.skip
        focus
          kernel_rfl
        simp only [Act.put, List.setIfInBounds_toArray, List.set_cons_succ, List.set_cons_zero]
        apply EqGo.skip
        focus
          kernel_rfl
        simp only [Act.put, List.setIfInBounds_toArray, List.set_cons_succ, List.set_cons_zero]
        apply EqGo.skip
        focus
          kernel_rfl
        simp only [Act.put, List.setIfInBounds_toArray, List.set_cons_succ, List.set_cons_zero]
        apply EqGo.skip
        focus
          kernel_rfl
        simp only [Act.put, List.setIfInBounds_toArray, List.set_cons_succ, List.set_cons_zero]
        apply EqGo.skip
        focus
          kernel_rfl
        simp only [Act.put, List.setIfInBounds_toArray, List.set_cons_succ, List.set_cons_zero]
        apply EqGo.skip
        focus
          kernel_rfl
        simp only [Act.put, List.setIfInBounds_toArray, List.set_cons_succ, List.set_cons_zero]
        apply EqGo.skip
        focus
          kernel_rfl
        simp only [Act.put, List.setIfInBounds_toArray, List.set_cons_succ, List.set_cons_zero]
        apply EqGo.skip
        focus
          kernel_rfl
        simp only [Act.put, List.setIfInBounds_toArray, List.set_cons_succ, List.set_cons_zero]
        apply EqGo.skip
        focus
          kernel_rfl
        simp only [Act.put, List.setIfInBounds_toArray, List.set_cons_succ, List.set_cons_zero]
        apply EqGo.skip
        focus
          kernel_rfl
        simp only [Act.put, List.setIfInBounds_toArray, List.set_cons_succ, List.set_cons_zero]
        apply EqGo.skip
        focus
          kernel_rfl
        simp only [Act.put, List.setIfInBounds_toArray, List.set_cons_succ, List.set_cons_zero]
        apply EqGo.run
        focus
          kernel_rfl
        focus
          intro x K hK
          go_wp2_with fail
          first | exact hK x (Below.refl _ _) | exact Below.refl _ _
        simp only [Act.put, List.setIfInBounds_toArray, List.set_cons_succ, List.set_cons_zero]
        apply EqGo.run
        focus
          kernel_rfl
        focus
          intro x K hK
          go_wp2_with fail
          first | exact hK x (Below.refl _ _) | exact Below.refl _ _
        simp only [Act.put, List.setIfInBounds_toArray, List.set_cons_succ, List.set_cons_zero]
        apply EqGo.skip
        focus
          kernel_rfl
        simp only [Act.put, List.setIfInBounds_toArray, List.set_cons_succ, List.set_cons_zero]
        apply EqGo.skip
        focus
          kernel_rfl
        simp only [Act.put, List.setIfInBounds_toArray, List.set_cons_succ, List.set_cons_zero]
        apply EqGo.skip
        focus
          kernel_rfl
        simp only [Act.put, List.setIfInBounds_toArray, List.set_cons_succ, List.set_cons_zero]
        apply EqGo.skip
        focus
          kernel_rfl
        simp only [Act.put, List.setIfInBounds_toArray, List.set_cons_succ, List.set_cons_zero]
        apply EqGo.skip
        focus
          kernel_rfl
        simp only [Act.put, List.setIfInBounds_toArray, List.set_cons_succ, List.set_cons_zero]
        apply EqGo.skip
        focus
          kernel_rfl
        simp only [Act.put, List.setIfInBounds_toArray, List.set_cons_succ, List.set_cons_zero]
        apply EqGo.skip
        focus
          kernel_rfl
        simp only [Act.put, List.setIfInBounds_toArray, List.set_cons_succ, List.set_cons_zero]
        apply EqGo.skip
        focus
          kernel_rfl
        simp only [Act.put, List.setIfInBounds_toArray, List.set_cons_succ, List.set_cons_zero]
        apply EqGo.skip
        focus
          kernel_rfl
        simp only [Act.put, List.setIfInBounds_toArray, List.set_cons_succ, List.set_cons_zero]
        apply EqGo.run
        focus
          kernel_rfl
        focus
          intro x K hK
          go_wp2_with fail
          first | exact hK x (Below.refl _ _) | exact Below.refl _ _
        simp only [Act.put, List.setIfInBounds_toArray, List.set_cons_succ, List.set_cons_zero]
        apply EqGo.run
        focus
          kernel_rfl
        focus
          intro x K hK
          go_wp2_with fail
          first | exact hK x (Below.refl _ _) | exact Below.refl _ _
        simp only [Act.put, List.setIfInBounds_toArray, List.set_cons_succ, List.set_cons_zero]
        cases pb with
        | false =>
          apply EqGo.run
          focus
            kernel_rfl
          focus
            intro x K hK
            go_wp2_with fail
            first | exact hK x (Below.refl _ _) | exact Below.refl _ _
          simp only [Act.put, List.setIfInBounds_toArray, List.set_cons_succ, List.set_cons_zero]
          apply EqGo.run
          focus
            kernel_rfl
          focus
            intro x K hK
            go_wp2_with fail
            first | exact hK x (Below.refl _ _) | exact Below.refl _ _
          simp only [Act.put, List.setIfInBounds_toArray, List.set_cons_succ, List.set_cons_zero]
          apply EqGo.skip
          focus
            kernel_rfl
          simp only [Act.put, List.setIfInBounds_toArray, List.set_cons_succ, List.set_cons_zero]
          apply EqGo.skip
          focus
            kernel_rfl
          simp only [Act.put, List.setIfInBounds_toArray, List.set_cons_succ, List.set_cons_zero]
          apply EqGo.skip
          focus
            kernel_rfl
          simp only [Act.put, List.setIfInBounds_toArray, List.set_cons_succ, List.set_cons_zero]
          apply EqGo.skip
          focus
            kernel_rfl
          simp only [Act.put, List.setIfInBounds_toArray, List.set_cons_succ, List.set_cons_zero]
          apply EqGo.skip
          focus
            kernel_rfl
          simp only [Act.put, List.setIfInBounds_toArray, List.set_cons_succ, List.set_cons_zero]
          apply EqGo.skip
          focus
            kernel_rfl
          simp only [Act.put, List.setIfInBounds_toArray, List.set_cons_succ, List.set_cons_zero]
          apply EqGo.skip
          focus
            kernel_rfl
          simp only [Act.put, List.setIfInBounds_toArray, List.set_cons_succ, List.set_cons_zero]
          apply EqGo.skip
          focus
            kernel_rfl
          simp only [Act.put, List.setIfInBounds_toArray, List.set_cons_succ, List.set_cons_zero]
          apply EqGo.skip
          focus
            kernel_rfl
          simp only [Act.put, List.setIfInBounds_toArray, List.set_cons_succ, List.set_cons_zero]
          apply EqGo.skip
          focus
            kernel_rfl
          simp only [Act.put, List.setIfInBounds_toArray, List.set_cons_succ, List.set_cons_zero]
          apply EqGo.skip
          focus
            kernel_rfl
          simp only [Act.put, List.setIfInBounds_toArray, List.set_cons_succ, List.set_cons_zero]
          apply EqGo.skip
          focus
            kernel_rfl
          simp only [Act.put, List.setIfInBounds_toArray, List.set_cons_succ, List.set_cons_zero]
          apply EqGo.run
          focus
            kernel_rfl
          focus
            intro x K hK
            go_wp2_with fail
            first | exact hK x (Below.refl _ _) | exact Below.refl _ _
          simp only [Act.put, List.setIfInBounds_toArray, List.set_cons_succ, List.set_cons_zero]
          apply EqGo.run
          focus
            kernel_rfl
          focus
            intro x K hK
            go_wp2_with fail
            first | exact hK x (Below.refl _ _) | exact Below.refl _ _
          simp only [Act.put, List.setIfInBounds_toArray, List.set_cons_succ, List.set_cons_zero]
          apply EqGo.skip
          focus
            kernel_rfl
          simp only [Act.put, List.setIfInBounds_toArray, List.set_cons_succ, List.set_cons_zero]
          apply EqGo.skip
          focus
            kernel_rfl
          simp only [Act.put, List.setIfInBounds_toArray, List.set_cons_succ, List.set_cons_zero]
          apply EqGo.skip
          focus
            kernel_rfl
          simp only [Act.put, List.setIfInBounds_toArray, List.set_cons_succ, List.set_cons_zero]
          apply EqGo.skip
          focus
            kernel_rfl
          simp only [Act.put, List.setIfInBounds_toArray, List.set_cons_succ, List.set_cons_zero]
          apply EqGo.skip
          focus
            kernel_rfl
          simp only [Act.put, List.setIfInBounds_toArray, List.set_cons_succ, List.set_cons_zero]
          apply EqGo.skip
          focus
            kernel_rfl
          simp only [Act.put, List.setIfInBounds_toArray, List.set_cons_succ, List.set_cons_zero]
          apply EqGo.skip
          focus
            kernel_rfl
          simp only [Act.put, List.setIfInBounds_toArray, List.set_cons_succ, List.set_cons_zero]
          apply EqGo.skip
          focus
            kernel_rfl
          simp only [Act.put, List.setIfInBounds_toArray, List.set_cons_succ, List.set_cons_zero]
          apply EqGo.skip
          focus
            kernel_rfl
          simp only [Act.put, List.setIfInBounds_toArray, List.set_cons_succ, List.set_cons_zero]
          apply EqGo.run
          focus
            kernel_rfl
          focus
            intro x K hK
            go_wp2_with fail
            first | exact hK x (Below.refl _ _) | exact Below.refl _ _
          simp only [Act.put, List.setIfInBounds_toArray, List.set_cons_succ, List.set_cons_zero]
          apply EqGo.run
          focus
            kernel_rfl
          focus
            intro x K hK
            go_wp2_with fail
            first | exact hK x (Below.refl _ _) | exact Below.refl _ _
          simp only [Act.put, List.setIfInBounds_toArray, List.set_cons_succ, List.set_cons_zero]
          intro xv
          have HS3 := Lib.hid (HS.out.below xv.below)
          clear z0 z1 y1 y2 HS
          go_wp2_with fail
          go_roundw
          case rel => exact ⟨k + 1, Nat.succ_le_of_lt hlt, by go_num, HS3⟩
          case measure => exact measJ hlt
        | true =>
          rw [HVB.out rfl] at y2
          cases tb with
          | false =>
            apply EqGo.run
            focus
              kernel_rfl
            focus
              intro x K hK
              go_wp2_with fail
              first | exact hK x (Below.refl _ _) | exact Below.refl _ _
            simp only [Act.put, List.setIfInBounds_toArray, List.set_cons_succ, List.set_cons_zero]
            apply EqGo.run
            focus
              kernel_rfl
            focus
              intro x K hK
              go_wp2_with fail
              first | exact hK x (Below.refl _ _) | exact Below.refl _ _
            simp only [Act.put, List.setIfInBounds_toArray, List.set_cons_succ, List.set_cons_zero]
            apply EqGo.run
            focus
              kernel_rfl
            focus
              intro x K hK
              go_wp2_with fail
              first | exact hK x (Below.refl _ _) | exact Below.refl _ _
            simp only [Act.put, List.setIfInBounds_toArray, List.set_cons_succ, List.set_cons_zero]
            apply EqGo.run
            focus
              kernel_rfl
            focus
              intro x K hK
              go_wp2_with fail
              first | exact hK x (Below.refl _ _) | exact Below.refl _ _
            simp only [Act.put, List.setIfInBounds_toArray, List.set_cons_succ, List.set_cons_zero]
            apply EqGo.run
            focus
              kernel_rfl
            focus
              intro x K hK
              go_wp2_with fail
              first | exact hK x (Below.refl _ _) | exact Below.refl _ _
            simp only [Act.put, List.setIfInBounds_toArray, List.set_cons_succ, List.set_cons_zero]
            apply EqGo.run
            focus
              kernel_rfl
            focus
              intro x K hK
              go_wp2_with fail
              first | exact hK x (Below.refl _ _) | exact Below.refl _ _
            simp only [Act.put, List.setIfInBounds_toArray, List.set_cons_succ, List.set_cons_zero]
            apply EqGo.run
            focus
              kernel_rfl
            focus
              intro x K hK
              go_wp2_with fail
              first | exact hK x (Below.refl _ _) | exact Below.refl _ _
            simp only [Act.put, List.setIfInBounds_toArray, List.set_cons_succ, List.set_cons_zero]
            apply EqGo.run
            focus
              kernel_rfl
            focus
              intro x K hK
              go_wp2_with fail
              first | exact hK x (Below.refl _ _) | exact Below.refl _ _
            simp only [Act.put, List.setIfInBounds_toArray, List.set_cons_succ, List.set_cons_zero]
            apply EqGo.run
            focus
              kernel_rfl
            focus
              intro x K hK
              go_wp2_with fail
              first | exact hK x (Below.refl _ _) | exact Below.refl _ _
            simp only [Act.put, List.setIfInBounds_toArray, List.set_cons_succ, List.set_cons_zero]
            apply EqGo.run
            focus
              kernel_rfl
            focus
              intro x K hK
              go_wp2_with fail
              first | exact hK x (Below.refl _ _) | exact Below.refl _ _
            simp only [Act.put, List.setIfInBounds_toArray, List.set_cons_succ, List.set_cons_zero]
            apply EqGo.run
            focus
              kernel_rfl
            focus
              intro x K hK
              go_wp2_with fail
              first | exact hK x (Below.refl _ _) | exact Below.refl _ _
            simp only [Act.put, List.setIfInBounds_toArray, List.set_cons_succ, List.set_cons_zero]
            apply EqGo.run
            focus
              kernel_rfl
            focus
              intro x K hK
              go_wp2_with fail
              first | exact hK x (Below.refl _ _) | exact Below.refl _ _
            simp only [Act.put, List.setIfInBounds_toArray, List.set_cons_succ, List.set_cons_zero]
            apply EqGo.run
            focus
              kernel_rfl
            focus
              intro x K hK
              go_wp2_with fail
              first | exact hK x (Below.refl _ _) | exact Below.refl _ _
            simp only [Act.put, List.setIfInBounds_toArray, List.set_cons_succ, List.set_cons_zero]
            apply EqGo.run
            focus
              kernel_rfl
            focus
              intro x K hK
              go_wp2_with fail
              first | exact hK x (Below.refl _ _) | exact Below.refl _ _
            simp only [Act.put, List.setIfInBounds_toArray, List.set_cons_succ, List.set_cons_zero]
            apply EqGo.run
            focus
              kernel_rfl
            focus
              intro x K hK
              go_wp2_with fail
              first | exact hK x (Below.refl _ _) | exact Below.refl _ _
            simp only [Act.put, List.setIfInBounds_toArray, List.set_cons_succ, List.set_cons_zero]
            apply EqGo.run
            focus
              kernel_rfl
            focus
              intro x K hK
              go_wp2_with fail
              first | exact hK x (Below.refl _ _) | exact Below.refl _ _
            simp only [Act.put, List.setIfInBounds_toArray, List.set_cons_succ, List.set_cons_zero]
            apply EqGo.skip
            focus
              kernel_rfl
            simp only [Act.put, List.setIfInBounds_toArray, List.set_cons_succ, List.set_cons_zero]
            apply EqGo.skip
            focus
              kernel_rfl
            simp only [Act.put, List.setIfInBounds_toArray, List.set_cons_succ, List.set_cons_zero]
            apply EqGo.skip
            focus
              kernel_rfl
            simp only [Act.put, List.setIfInBounds_toArray, List.set_cons_succ, List.set_cons_zero]
            apply EqGo.skip
            focus
              kernel_rfl
            simp only [Act.put, List.setIfInBounds_toArray, List.set_cons_succ, List.set_cons_zero]
            apply EqGo.skip
            focus
              kernel_rfl
            simp only [Act.put, List.setIfInBounds_toArray, List.set_cons_succ, List.set_cons_zero]
            apply EqGo.skip
            focus
              kernel_rfl
            simp only [Act.put, List.setIfInBounds_toArray, List.set_cons_succ, List.set_cons_zero]
            apply EqGo.skip
            focus
              kernel_rfl
            simp only [Act.put, List.setIfInBounds_toArray, List.set_cons_succ, List.set_cons_zero]
            apply EqGo.skip
            focus
              kernel_rfl
            simp only [Act.put, List.setIfInBounds_toArray, List.set_cons_succ, List.set_cons_zero]
            apply EqGo.skip
            focus
              kernel_rfl
            simp only [Act.put, List.setIfInBounds_toArray, List.set_cons_succ, List.set_cons_zero]
            apply EqGo.run
            focus
              kernel_rfl
            focus
              intro x K hK
              go_wp2_with fail
              first | exact hK x (Below.refl _ _) | exact Below.refl _ _
            simp only [Act.put, List.setIfInBounds_toArray, List.set_cons_succ, List.set_cons_zero]
            apply EqGo.run
            focus
              kernel_rfl
            focus
              intro x K hK
              go_wp2_with fail
              first | exact hK x (Below.refl _ _) | exact Below.refl _ _
            simp only [Act.put, List.setIfInBounds_toArray, List.set_cons_succ, List.set_cons_zero]
            intro xv
            have HS3 := Lib.hid (HS.out.below xv.below)
            clear z0 z1 y1 y2 HS
            go_wp2_with fail
            go_roundw
            case rel => exact ⟨k + 1, Nat.succ_le_of_lt hlt, by go_num, HS3⟩
            case measure => exact measJ hlt
          | true =>
            rw [jumpF_cyc _ _ (HCB.out rfl rfl)] at HJB
            apply EqGo.run
            focus
              kernel_rfl
            focus
              intro x K hK
              go_wp2_with fail
              first | exact hK x (Below.refl _ _) | exact Below.refl _ _
            simp only [Act.put, List.setIfInBounds_toArray, List.set_cons_succ, List.set_cons_zero]
            apply EqGo.run
            focus
              kernel_rfl
            focus
              intro x K hK
              go_wp2_with fail
              first | exact hK x (Below.refl _ _) | exact Below.refl _ _
            simp only [Act.put, List.setIfInBounds_toArray, List.set_cons_succ, List.set_cons_zero]
            apply EqGo.run
            focus
              kernel_rfl
            focus
              intro x K hK
              go_wp2_with fail
              first | exact hK x (Below.refl _ _) | exact Below.refl _ _
            simp only [Act.put, List.setIfInBounds_toArray, List.set_cons_succ, List.set_cons_zero]
            apply EqGo.run
            focus
              kernel_rfl
            focus
              intro x K hK
              go_wp2_with fail
              first | exact hK x (Below.refl _ _) | exact Below.refl _ _
            simp only [Act.put, List.setIfInBounds_toArray, List.set_cons_succ, List.set_cons_zero]
            apply EqGo.run
            focus
              kernel_rfl
            focus
              intro x K hK
              go_wp2_with fail
              first | exact hK x (Below.refl _ _) | exact Below.refl _ _
            simp only [Act.put, List.setIfInBounds_toArray, List.set_cons_succ, List.set_cons_zero]
            apply EqGo.run
            focus
              kernel_rfl
            focus
              intro x K hK
              go_wp2_with fail
              first | exact hK x (Below.refl _ _) | exact Below.refl _ _
            simp only [Act.put, List.setIfInBounds_toArray, List.set_cons_succ, List.set_cons_zero]
            apply EqGo.run
            focus
              kernel_rfl
            focus
              intro x K hK
              go_wp2_with fail
              first | exact hK x (Below.refl _ _) | exact Below.refl _ _
            simp only [Act.put, List.setIfInBounds_toArray, List.set_cons_succ, List.set_cons_zero]
            apply EqGo.run
            focus
              kernel_rfl
            focus
              intro x K hK
              go_wp2_with fail
              first | exact hK x (Below.refl _ _) | exact Below.refl _ _
            simp only [Act.put, List.setIfInBounds_toArray, List.set_cons_succ, List.set_cons_zero]
            apply EqGo.run
            focus
              kernel_rfl
            focus
              intro x K hK
              go_wp2_with fail
              first | exact hK x (Below.refl _ _) | exact Below.refl _ _
            simp only [Act.put, List.setIfInBounds_toArray, List.set_cons_succ, List.set_cons_zero]
            apply EqGo.run
            focus
              kernel_rfl
            focus
              intro x K hK
              go_wp2_with fail
              first | exact hK x (Below.refl _ _) | exact Below.refl _ _
            simp only [Act.put, List.setIfInBounds_toArray, List.set_cons_succ, List.set_cons_zero]
            apply EqGo.run
            focus
              kernel_rfl
            focus
              intro x K hK
              go_wp2_with fail
              first | exact hK x (Below.refl _ _) | exact Below.refl _ _
            simp only [Act.put, List.setIfInBounds_toArray, List.set_cons_succ, List.set_cons_zero]
            apply EqGo.run
            focus
              kernel_rfl
            focus
              intro x K hK
              go_wp2_with fail
              first | exact hK x (Below.refl _ _) | exact Below.refl _ _
            simp only [Act.put, List.setIfInBounds_toArray, List.set_cons_succ, List.set_cons_zero]
            apply EqGo.run
            focus
              kernel_rfl
            focus
              intro x K hK
              go_wp2_with fail
              first | exact hK x (Below.refl _ _) | exact Below.refl _ _
            simp only [Act.put, List.setIfInBounds_toArray, List.set_cons_succ, List.set_cons_zero]
            apply EqGo.run
            focus
              kernel_rfl
            focus
              intro x K hK
              go_wp2_with fail
              first | exact hK x (Below.refl _ _) | exact Below.refl _ _
            simp only [Act.put, List.setIfInBounds_toArray, List.set_cons_succ, List.set_cons_zero]
            apply EqGo.run
            focus
              kernel_rfl
            focus
              intro x K hK
              go_wp2_with fail
              first | exact hK x (Below.refl _ _) | exact Below.refl _ _
            simp only [Act.put, List.setIfInBounds_toArray, List.set_cons_succ, List.set_cons_zero]
            apply EqGo.run
            focus
              kernel_rfl
            focus
              intro x K hK
              go_wp2_with fail
              first | exact hK x (Below.refl _ _) | exact Below.refl _ _
            simp only [Act.put, List.setIfInBounds_toArray, List.set_cons_succ, List.set_cons_zero]
            apply EqGo.run
            focus
              kernel_rfl
            focus
              intro x K hK
              go_wp2_with fail
              first | exact hK x (Below.refl _ _) | exact Below.refl _ _
            simp only [Act.put, List.setIfInBounds_toArray, List.set_cons_succ, List.set_cons_zero]
            apply EqGo.run
            focus
              kernel_rfl
            focus
              intro x K hK
              go_wp2_with fail
              first | exact hK x (Below.refl _ _) | exact Below.refl _ _
            simp only [Act.put, List.setIfInBounds_toArray, List.set_cons_succ, List.set_cons_zero]
            apply EqGo.run
            focus
              kernel_rfl
            focus
              intro x K hK
              go_wp2_with fail
              first | exact hK x (Below.refl _ _) | exact Below.refl _ _
            simp only [Act.put, List.setIfInBounds_toArray, List.set_cons_succ, List.set_cons_zero]
            apply EqGo.run
            focus
              kernel_rfl
            focus
              intro x K hK
              go_wp2_with fail
              first | exact hK x (Below.refl _ _) | exact Below.refl _ _
            simp only [Act.put, List.setIfInBounds_toArray, List.set_cons_succ, List.set_cons_zero]
            apply EqGo.run
            focus
              kernel_rfl
            focus
              intro x K hK
              go_wp2_with fail
              first | exact hK x (Below.refl _ _) | exact Below.refl _ _
            simp only [Act.put, List.setIfInBounds_toArray, List.set_cons_succ, List.set_cons_zero]
            apply EqGo.run
            focus
              kernel_rfl
            focus
              intro x K hK
              go_wp2_with fail
              first | exact hK x (Below.refl _ _) | exact Below.refl _ _
            simp only [Act.put, List.setIfInBounds_toArray, List.set_cons_succ, List.set_cons_zero]
            apply EqGo.run
            focus
              kernel_rfl
            focus
              intro x K hK
              go_wp2_with fail
              first | exact hK x (Below.refl _ _) | exact Below.refl _ _
            simp only [Act.put, List.setIfInBounds_toArray, List.set_cons_succ, List.set_cons_zero]
            apply EqGo.run (c := (.int .i64 (-1)))
            focus
              kernel_rfl
            focus
              intro x K hK
              go_wp2_with fail
              refine (Hid.out HJB x.val x.below).mono ?_
              rintro e x' ⟨rfl, hb'⟩
              exact hK ⟨x', x.below.trans (hb'.mono x.below.size)⟩ hb'
            simp only [Act.put, List.setIfInBounds_toArray, List.set_cons_succ, List.set_cons_zero]
            apply EqGo.run
            focus
              kernel_rfl
            focus
              intro x K hK
              go_wp2_with fail
              first | exact hK x (Below.refl _ _) | exact Below.refl _ _
            simp only [Act.put, List.setIfInBounds_toArray, List.set_cons_succ, List.set_cons_zero]
            apply EqGo.run
            focus
              kernel_rfl
            focus
              intro x K hK
              go_wp2_with fail
              first | exact hK x (Below.refl _ _) | exact Below.refl _ _
            simp only [Act.put, List.setIfInBounds_toArray, List.set_cons_succ, List.set_cons_zero]
            apply EqGo.run
            focus
              kernel_rfl
            focus
              intro x K hK
              go_wp2_with fail
              first | exact hK x (Below.refl _ _) | exact Below.refl _ _
            simp only [Act.put, List.setIfInBounds_toArray, List.set_cons_succ, List.set_cons_zero]
            intro xv
            have HS3 := Lib.hid (HS.out.below xv.below)
            clear z0 z1 y1 y2 HS
            go_wp2_with fail
            go_roundw
            case rel => exact ⟨k + 1, Nat.succ_le_of_lt hlt, by go_num, HS3⟩
            case measure => exact measJ hlt
      | true =>
        rw [HVA.out rfl] at y1
        cases ta with
        | false =>
          apply EqGo.run
          focus
            kernel_rfl
          focus
            intro x K hK
            go_wp2_with fail
            first | exact hK x (Below.refl _ _) | exact Below.refl _ _
          simp only [Act.put, List.setIfInBounds_toArray, List.set_cons_succ, List.set_cons_zero]
          apply EqGo.run
          focus
            kernel_rfl
          focus
            intro x K hK
            go_wp2_with fail
            first | exact hK x (Below.refl _ _) | exact Below.refl _ _
          simp only [Act.put, List.setIfInBounds_toArray, List.set_cons_succ, List.set_cons_zero]
          apply EqGo.run
          focus
            kernel_rfl
          focus
            intro x K hK
            go_wp2_with fail
            first | exact hK x (Below.refl _ _) | exact Below.refl _ _
          simp only [Act.put, List.setIfInBounds_toArray, List.set_cons_succ, List.set_cons_zero]
          apply EqGo.run
          focus
            kernel_rfl
          focus
            intro x K hK
            go_wp2_with fail
            first | exact hK x (Below.refl _ _) | exact Below.refl _ _
          simp only [Act.put, List.setIfInBounds_toArray, List.set_cons_succ, List.set_cons_zero]
          apply EqGo.run
          focus
            kernel_rfl
          focus
            intro x K hK
            go_wp2_with fail
            first | exact hK x (Below.refl _ _) | exact Below.refl _ _
          simp only [Act.put, List.setIfInBounds_toArray, List.set_cons_succ, List.set_cons_zero]
          apply EqGo.run
          focus
            kernel_rfl
          focus
            intro x K hK
            go_wp2_with fail
            first | exact hK x (Below.refl _ _) | exact Below.refl _ _
          simp only [Act.put, List.setIfInBounds_toArray, List.set_cons_succ, List.set_cons_zero]
          apply EqGo.run
          focus
            kernel_rfl
          focus
            intro x K hK
            go_wp2_with fail
            first | exact hK x (Below.refl _ _) | exact Below.refl _ _
          simp only [Act.put, List.setIfInBounds_toArray, List.set_cons_succ, List.set_cons_zero]
          apply EqGo.run
          focus
            kernel_rfl
          focus
            intro x K hK
            go_wp2_with fail
            first | exact hK x (Below.refl _ _) | exact Below.refl _ _
          simp only [Act.put, List.setIfInBounds_toArray, List.set_cons_succ, List.set_cons_zero]
          apply EqGo.run
          focus
            kernel_rfl
          focus
            intro x K hK
            go_wp2_with fail
            first | exact hK x (Below.refl _ _) | exact Below.refl _ _
          simp only [Act.put, List.setIfInBounds_toArray, List.set_cons_succ, List.set_cons_zero]
          apply EqGo.run
          focus
            kernel_rfl
          focus
            intro x K hK
            go_wp2_with fail
            first | exact hK x (Below.refl _ _) | exact Below.refl _ _
          simp only [Act.put, List.setIfInBounds_toArray, List.set_cons_succ, List.set_cons_zero]
          apply EqGo.run
          focus
            kernel_rfl
          focus
            intro x K hK
            go_wp2_with fail
            first | exact hK x (Below.refl _ _) | exact Below.refl _ _
          simp only [Act.put, List.setIfInBounds_toArray, List.set_cons_succ, List.set_cons_zero]
          apply EqGo.run
          focus
            kernel_rfl
          focus
            intro x K hK
            go_wp2_with fail
            first | exact hK x (Below.refl _ _) | exact Below.refl _ _
          simp only [Act.put, List.setIfInBounds_toArray, List.set_cons_succ, List.set_cons_zero]
          apply EqGo.run
          focus
            kernel_rfl
          focus
            intro x K hK
            go_wp2_with fail
            first | exact hK x (Below.refl _ _) | exact Below.refl _ _
          simp only [Act.put, List.setIfInBounds_toArray, List.set_cons_succ, List.set_cons_zero]
          apply EqGo.run
          focus
            kernel_rfl
          focus
            intro x K hK
            go_wp2_with fail
            first | exact hK x (Below.refl _ _) | exact Below.refl _ _
          simp only [Act.put, List.setIfInBounds_toArray, List.set_cons_succ, List.set_cons_zero]
          apply EqGo.run
          focus
            kernel_rfl
          focus
            intro x K hK
            go_wp2_with fail
            first | exact hK x (Below.refl _ _) | exact Below.refl _ _
          simp only [Act.put, List.setIfInBounds_toArray, List.set_cons_succ, List.set_cons_zero]
          apply EqGo.run
          focus
            kernel_rfl
          focus
            intro x K hK
            go_wp2_with fail
            first | exact hK x (Below.refl _ _) | exact Below.refl _ _
          simp only [Act.put, List.setIfInBounds_toArray, List.set_cons_succ, List.set_cons_zero]
          apply EqGo.skip
          focus
            kernel_rfl
          simp only [Act.put, List.setIfInBounds_toArray, List.set_cons_succ, List.set_cons_zero]
          apply EqGo.skip
          focus
            kernel_rfl
          simp only [Act.put, List.setIfInBounds_toArray, List.set_cons_succ, List.set_cons_zero]
          apply EqGo.skip
          focus
            kernel_rfl
          simp only [Act.put, List.setIfInBounds_toArray, List.set_cons_succ, List.set_cons_zero]
          apply EqGo.skip
          focus
            kernel_rfl
          simp only [Act.put, List.setIfInBounds_toArray, List.set_cons_succ, List.set_cons_zero]
          apply EqGo.skip
          focus
            kernel_rfl
          simp only [Act.put, List.setIfInBounds_toArray, List.set_cons_succ, List.set_cons_zero]
          apply EqGo.skip
          focus
            kernel_rfl
          simp only [Act.put, List.setIfInBounds_toArray, List.set_cons_succ, List.set_cons_zero]
          apply EqGo.skip
          focus
            kernel_rfl
          simp only [Act.put, List.setIfInBounds_toArray, List.set_cons_succ, List.set_cons_zero]
          apply EqGo.skip
          focus
            kernel_rfl
          simp only [Act.put, List.setIfInBounds_toArray, List.set_cons_succ, List.set_cons_zero]
          apply EqGo.skip
          focus
            kernel_rfl
          simp only [Act.put, List.setIfInBounds_toArray, List.set_cons_succ, List.set_cons_zero]
          apply EqGo.run
          focus
            kernel_rfl
          focus
            intro x K hK
            go_wp2_with fail
            first | exact hK x (Below.refl _ _) | exact Below.refl _ _
          simp only [Act.put, List.setIfInBounds_toArray, List.set_cons_succ, List.set_cons_zero]
          apply EqGo.run
          focus
            kernel_rfl
          focus
            intro x K hK
            go_wp2_with fail
            first | exact hK x (Below.refl _ _) | exact Below.refl _ _
          simp only [Act.put, List.setIfInBounds_toArray, List.set_cons_succ, List.set_cons_zero]
          cases pb with
          | false =>
            apply EqGo.run
            focus
              kernel_rfl
            focus
              intro x K hK
              go_wp2_with fail
              first | exact hK x (Below.refl _ _) | exact Below.refl _ _
            simp only [Act.put, List.setIfInBounds_toArray, List.set_cons_succ, List.set_cons_zero]
            apply EqGo.run
            focus
              kernel_rfl
            focus
              intro x K hK
              go_wp2_with fail
              first | exact hK x (Below.refl _ _) | exact Below.refl _ _
            simp only [Act.put, List.setIfInBounds_toArray, List.set_cons_succ, List.set_cons_zero]
            apply EqGo.skip
            focus
              kernel_rfl
            simp only [Act.put, List.setIfInBounds_toArray, List.set_cons_succ, List.set_cons_zero]
            apply EqGo.skip
            focus
              kernel_rfl
            simp only [Act.put, List.setIfInBounds_toArray, List.set_cons_succ, List.set_cons_zero]
            apply EqGo.skip
            focus
              kernel_rfl
            simp only [Act.put, List.setIfInBounds_toArray, List.set_cons_succ, List.set_cons_zero]
            apply EqGo.skip
            focus
              kernel_rfl
            simp only [Act.put, List.setIfInBounds_toArray, List.set_cons_succ, List.set_cons_zero]
            apply EqGo.skip
            focus
              kernel_rfl
            simp only [Act.put, List.setIfInBounds_toArray, List.set_cons_succ, List.set_cons_zero]
            apply EqGo.skip
            focus
              kernel_rfl
            simp only [Act.put, List.setIfInBounds_toArray, List.set_cons_succ, List.set_cons_zero]
            apply EqGo.skip
            focus
              kernel_rfl
            simp only [Act.put, List.setIfInBounds_toArray, List.set_cons_succ, List.set_cons_zero]
            apply EqGo.skip
            focus
              kernel_rfl
            simp only [Act.put, List.setIfInBounds_toArray, List.set_cons_succ, List.set_cons_zero]
            apply EqGo.skip
            focus
              kernel_rfl
            simp only [Act.put, List.setIfInBounds_toArray, List.set_cons_succ, List.set_cons_zero]
            apply EqGo.skip
            focus
              kernel_rfl
            simp only [Act.put, List.setIfInBounds_toArray, List.set_cons_succ, List.set_cons_zero]
            apply EqGo.skip
            focus
              kernel_rfl
            simp only [Act.put, List.setIfInBounds_toArray, List.set_cons_succ, List.set_cons_zero]
            apply EqGo.skip
            focus
              kernel_rfl
            simp only [Act.put, List.setIfInBounds_toArray, List.set_cons_succ, List.set_cons_zero]
            apply EqGo.run
            focus
              kernel_rfl
            focus
              intro x K hK
              go_wp2_with fail
              first | exact hK x (Below.refl _ _) | exact Below.refl _ _
            simp only [Act.put, List.setIfInBounds_toArray, List.set_cons_succ, List.set_cons_zero]
            apply EqGo.run
            focus
              kernel_rfl
            focus
              intro x K hK
              go_wp2_with fail
              first | exact hK x (Below.refl _ _) | exact Below.refl _ _
            simp only [Act.put, List.setIfInBounds_toArray, List.set_cons_succ, List.set_cons_zero]
            apply EqGo.skip
            focus
              kernel_rfl
            simp only [Act.put, List.setIfInBounds_toArray, List.set_cons_succ, List.set_cons_zero]
            apply EqGo.skip
            focus
              kernel_rfl
            simp only [Act.put, List.setIfInBounds_toArray, List.set_cons_succ, List.set_cons_zero]
            apply EqGo.skip
            focus
              kernel_rfl
            simp only [Act.put, List.setIfInBounds_toArray, List.set_cons_succ, List.set_cons_zero]
            apply EqGo.skip
            focus
              kernel_rfl
            simp only [Act.put, List.setIfInBounds_toArray, List.set_cons_succ, List.set_cons_zero]
            apply EqGo.skip
            focus
              kernel_rfl
            simp only [Act.put, List.setIfInBounds_toArray, List.set_cons_succ, List.set_cons_zero]
            apply EqGo.skip
            focus
              kernel_rfl
            simp only [Act.put, List.setIfInBounds_toArray, List.set_cons_succ, List.set_cons_zero]
            apply EqGo.skip
            focus
              kernel_rfl
            simp only [Act.put, List.setIfInBounds_toArray, List.set_cons_succ, List.set_cons_zero]
            apply EqGo.skip
            focus
              kernel_rfl
            simp only [Act.put, List.setIfInBounds_toArray, List.set_cons_succ, List.set_cons_zero]
            apply EqGo.skip
            focus
              kernel_rfl
            simp only [Act.put, List.setIfInBounds_toArray, List.set_cons_succ, List.set_cons_zero]
            apply EqGo.run
            focus
              kernel_rfl
            focus
              intro x K hK
              go_wp2_with fail
              first | exact hK x (Below.refl _ _) | exact Below.refl _ _
            simp only [Act.put, List.setIfInBounds_toArray, List.set_cons_succ, List.set_cons_zero]
            apply EqGo.run
            focus
              kernel_rfl
            focus
              intro x K hK
              go_wp2_with fail
              first | exact hK x (Below.refl _ _) | exact Below.refl _ _
            simp only [Act.put, List.setIfInBounds_toArray, List.set_cons_succ, List.set_cons_zero]
            intro xv
            have HS3 := Lib.hid (HS.out.below xv.below)
            clear z0 z1 y1 y2 HS
            go_wp2_with fail
            go_roundw
            case rel => exact ⟨k + 1, Nat.succ_le_of_lt hlt, by go_num, HS3⟩
            case measure => exact measJ hlt
          | true =>
            rw [HVB.out rfl] at y2
            cases tb with
            | false =>
              apply EqGo.run
              focus
                kernel_rfl
              focus
                intro x K hK
                go_wp2_with fail
                first | exact hK x (Below.refl _ _) | exact Below.refl _ _
              simp only [Act.put, List.setIfInBounds_toArray, List.set_cons_succ, List.set_cons_zero]
              apply EqGo.run
              focus
                kernel_rfl
              focus
                intro x K hK
                go_wp2_with fail
                first | exact hK x (Below.refl _ _) | exact Below.refl _ _
              simp only [Act.put, List.setIfInBounds_toArray, List.set_cons_succ, List.set_cons_zero]
              apply EqGo.run
              focus
                kernel_rfl
              focus
                intro x K hK
                go_wp2_with fail
                first | exact hK x (Below.refl _ _) | exact Below.refl _ _
              simp only [Act.put, List.setIfInBounds_toArray, List.set_cons_succ, List.set_cons_zero]
              apply EqGo.run
              focus
                kernel_rfl
              focus
                intro x K hK
                go_wp2_with fail
                first | exact hK x (Below.refl _ _) | exact Below.refl _ _
              simp only [Act.put, List.setIfInBounds_toArray, List.set_cons_succ, List.set_cons_zero]
              apply EqGo.run
              focus
                kernel_rfl
              focus
                intro x K hK
                go_wp2_with fail
                first | exact hK x (Below.refl _ _) | exact Below.refl _ _
              simp only [Act.put, List.setIfInBounds_toArray, List.set_cons_succ, List.set_cons_zero]
              apply EqGo.run
              focus
                kernel_rfl
              focus
                intro x K hK
                go_wp2_with fail
                first | exact hK x (Below.refl _ _) | exact Below.refl _ _
              simp only [Act.put, List.setIfInBounds_toArray, List.set_cons_succ, List.set_cons_zero]
              apply EqGo.run
              focus
                kernel_rfl
              focus
                intro x K hK
                go_wp2_with fail
                first | exact hK x (Below.refl _ _) | exact Below.refl _ _
              simp only [Act.put, List.setIfInBounds_toArray, List.set_cons_succ, List.set_cons_zero]
              apply EqGo.run
              focus
                kernel_rfl
              focus
                intro x K hK
                go_wp2_with fail
                first | exact hK x (Below.refl _ _) | exact Below.refl _ _
              simp only [Act.put, List.setIfInBounds_toArray, List.set_cons_succ, List.set_cons_zero]
              apply EqGo.run
              focus
                kernel_rfl
              focus
                intro x K hK
                go_wp2_with fail
                first | exact hK x (Below.refl _ _) | exact Below.refl _ _
              simp only [Act.put, List.setIfInBounds_toArray, List.set_cons_succ, List.set_cons_zero]
              apply EqGo.run
              focus
                kernel_rfl
              focus
                intro x K hK
                go_wp2_with fail
                first | exact hK x (Below.refl _ _) | exact Below.refl _ _
              simp only [Act.put, List.setIfInBounds_toArray, List.set_cons_succ, List.set_cons_zero]
              apply EqGo.run
              focus
                kernel_rfl
              focus
                intro x K hK
                go_wp2_with fail
                first | exact hK x (Below.refl _ _) | exact Below.refl _ _
              simp only [Act.put, List.setIfInBounds_toArray, List.set_cons_succ, List.set_cons_zero]
              apply EqGo.run
              focus
                kernel_rfl
              focus
                intro x K hK
                go_wp2_with fail
                first | exact hK x (Below.refl _ _) | exact Below.refl _ _
              simp only [Act.put, List.setIfInBounds_toArray, List.set_cons_succ, List.set_cons_zero]
              apply EqGo.run
              focus
                kernel_rfl
              focus
                intro x K hK
                go_wp2_with fail
                first | exact hK x (Below.refl _ _) | exact Below.refl _ _
              simp only [Act.put, List.setIfInBounds_toArray, List.set_cons_succ, List.set_cons_zero]
              apply EqGo.run
              focus
                kernel_rfl
              focus
                intro x K hK
                go_wp2_with fail
                first | exact hK x (Below.refl _ _) | exact Below.refl _ _
              simp only [Act.put, List.setIfInBounds_toArray, List.set_cons_succ, List.set_cons_zero]
              apply EqGo.run
              focus
                kernel_rfl
              focus
                intro x K hK
                go_wp2_with fail
                first | exact hK x (Below.refl _ _) | exact Below.refl _ _
              simp only [Act.put, List.setIfInBounds_toArray, List.set_cons_succ, List.set_cons_zero]
              apply EqGo.run
              focus
                kernel_rfl
              focus
                intro x K hK
                go_wp2_with fail
                first | exact hK x (Below.refl _ _) | exact Below.refl _ _
              simp only [Act.put, List.setIfInBounds_toArray, List.set_cons_succ, List.set_cons_zero]
              apply EqGo.skip
              focus
                kernel_rfl
              simp only [Act.put, List.setIfInBounds_toArray, List.set_cons_succ, List.set_cons_zero]
              apply EqGo.skip
              focus
                kernel_rfl
              simp only [Act.put, List.setIfInBounds_toArray, List.set_cons_succ, List.set_cons_zero]
              apply EqGo.skip
              focus
                kernel_rfl
              simp only [Act.put, List.setIfInBounds_toArray, List.set_cons_succ, List.set_cons_zero]
              apply EqGo.skip
              focus
                kernel_rfl
              simp only [Act.put, List.setIfInBounds_toArray, List.set_cons_succ, List.set_cons_zero]
              apply EqGo.skip
              focus
                kernel_rfl
              simp only [Act.put, List.setIfInBounds_toArray, List.set_cons_succ, List.set_cons_zero]
              apply EqGo.skip
              focus
                kernel_rfl
              simp only [Act.put, List.setIfInBounds_toArray, List.set_cons_succ, List.set_cons_zero]
              apply EqGo.skip
              focus
                kernel_rfl
              simp only [Act.put, List.setIfInBounds_toArray, List.set_cons_succ, List.set_cons_zero]
              apply EqGo.skip
              focus
                kernel_rfl
              simp only [Act.put, List.setIfInBounds_toArray, List.set_cons_succ, List.set_cons_zero]
              apply EqGo.skip
              focus
                kernel_rfl
              simp only [Act.put, List.setIfInBounds_toArray, List.set_cons_succ, List.set_cons_zero]
              apply EqGo.run
              focus
                kernel_rfl
              focus
                intro x K hK
                go_wp2_with fail
                first | exact hK x (Below.refl _ _) | exact Below.refl _ _
              simp only [Act.put, List.setIfInBounds_toArray, List.set_cons_succ, List.set_cons_zero]
              apply EqGo.run
              focus
                kernel_rfl
              focus
                intro x K hK
                go_wp2_with fail
                first | exact hK x (Below.refl _ _) | exact Below.refl _ _
              simp only [Act.put, List.setIfInBounds_toArray, List.set_cons_succ, List.set_cons_zero]
              intro xv
              have HS3 := Lib.hid (HS.out.below xv.below)
              clear z0 z1 y1 y2 HS
              go_wp2_with fail
              go_roundw
              case rel => exact ⟨k + 1, Nat.succ_le_of_lt hlt, by go_num, HS3⟩
              case measure => exact measJ hlt
            | true =>
              rw [jumpF_cyc _ _ (HCB.out rfl rfl)] at HJB
              apply EqGo.run
              focus
                kernel_rfl
              focus
                intro x K hK
                go_wp2_with fail
                first | exact hK x (Below.refl _ _) | exact Below.refl _ _
              simp only [Act.put, List.setIfInBounds_toArray, List.set_cons_succ, List.set_cons_zero]
              apply EqGo.run
              focus
                kernel_rfl
              focus
                intro x K hK
                go_wp2_with fail
                first | exact hK x (Below.refl _ _) | exact Below.refl _ _
              simp only [Act.put, List.setIfInBounds_toArray, List.set_cons_succ, List.set_cons_zero]
              apply EqGo.run
              focus
                kernel_rfl
              focus
                intro x K hK
                go_wp2_with fail
                first | exact hK x (Below.refl _ _) | exact Below.refl _ _
              simp only [Act.put, List.setIfInBounds_toArray, List.set_cons_succ, List.set_cons_zero]
              apply EqGo.run
              focus
                kernel_rfl
              focus
                intro x K hK
                go_wp2_with fail
                first | exact hK x (Below.refl _ _) | exact Below.refl _ _
              simp only [Act.put, List.setIfInBounds_toArray, List.set_cons_succ, List.set_cons_zero]
              apply EqGo.run
              focus
                kernel_rfl
              focus
                intro x K hK
                go_wp2_with fail
                first | exact hK x (Below.refl _ _) | exact Below.refl _ _
              simp only [Act.put, List.setIfInBounds_toArray, List.set_cons_succ, List.set_cons_zero]
              apply EqGo.run
              focus
                kernel_rfl
              focus
                intro x K hK
                go_wp2_with fail
                first | exact hK x (Below.refl _ _) | exact Below.refl _ _
              simp only [Act.put, List.setIfInBounds_toArray, List.set_cons_succ, List.set_cons_zero]
              apply EqGo.run
              focus
                kernel_rfl
              focus
                intro x K hK
                go_wp2_with fail
                first | exact hK x (Below.refl _ _) | exact Below.refl _ _
              simp only [Act.put, List.setIfInBounds_toArray, List.set_cons_succ, List.set_cons_zero]
              apply EqGo.run
              focus
                kernel_rfl
              focus
                intro x K hK
                go_wp2_with fail
                first | exact hK x (Below.refl _ _) | exact Below.refl _ _
              simp only [Act.put, List.setIfInBounds_toArray, List.set_cons_succ, List.set_cons_zero]
              apply EqGo.run
              focus
                kernel_rfl
              focus
                intro x K hK
                go_wp2_with fail
                first | exact hK x (Below.refl _ _) | exact Below.refl _ _
              simp only [Act.put, List.setIfInBounds_toArray, List.set_cons_succ, List.set_cons_zero]
              apply EqGo.run
              focus
                kernel_rfl
              focus
                intro x K hK
                go_wp2_with fail
                first | exact hK x (Below.refl _ _) | exact Below.refl _ _
              simp only [Act.put, List.setIfInBounds_toArray, List.set_cons_succ, List.set_cons_zero]
              apply EqGo.run
              focus
                kernel_rfl
              focus
                intro x K hK
                go_wp2_with fail
                first | exact hK x (Below.refl _ _) | exact Below.refl _ _
              simp only [Act.put, List.setIfInBounds_toArray, List.set_cons_succ, List.set_cons_zero]
              apply EqGo.run
              focus
                kernel_rfl
              focus
                intro x K hK
                go_wp2_with fail
                first | exact hK x (Below.refl _ _) | exact Below.refl _ _
              simp only [Act.put, List.setIfInBounds_toArray, List.set_cons_succ, List.set_cons_zero]
              apply EqGo.run
              focus
                kernel_rfl
              focus
                intro x K hK
                go_wp2_with fail
                first | exact hK x (Below.refl _ _) | exact Below.refl _ _
              simp only [Act.put, List.setIfInBounds_toArray, List.set_cons_succ, List.set_cons_zero]
              apply EqGo.run
              focus
                kernel_rfl
              focus
                intro x K hK
                go_wp2_with fail
                first | exact hK x (Below.refl _ _) | exact Below.refl _ _
              simp only [Act.put, List.setIfInBounds_toArray, List.set_cons_succ, List.set_cons_zero]
              apply EqGo.run
              focus
                kernel_rfl
              focus
                intro x K hK
                go_wp2_with fail
                first | exact hK x (Below.refl _ _) | exact Below.refl _ _
              simp only [Act.put, List.setIfInBounds_toArray, List.set_cons_succ, List.set_cons_zero]
              apply EqGo.run
              focus
                kernel_rfl
              focus
                intro x K hK
                go_wp2_with fail
                first | exact hK x (Below.refl _ _) | exact Below.refl _ _
              simp only [Act.put, List.setIfInBounds_toArray, List.set_cons_succ, List.set_cons_zero]
              apply EqGo.run
              focus
                kernel_rfl
              focus
                intro x K hK
                go_wp2_with fail
                first | exact hK x (Below.refl _ _) | exact Below.refl _ _
              simp only [Act.put, List.setIfInBounds_toArray, List.set_cons_succ, List.set_cons_zero]
              apply EqGo.run
              focus
                kernel_rfl
              focus
                intro x K hK
                go_wp2_with fail
                first | exact hK x (Below.refl _ _) | exact Below.refl _ _
              simp only [Act.put, List.setIfInBounds_toArray, List.set_cons_succ, List.set_cons_zero]
              apply EqGo.run
              focus
                kernel_rfl
              focus
                intro x K hK
                go_wp2_with fail
                first | exact hK x (Below.refl _ _) | exact Below.refl _ _
              simp only [Act.put, List.setIfInBounds_toArray, List.set_cons_succ, List.set_cons_zero]
              apply EqGo.run
              focus
                kernel_rfl
              focus
                intro x K hK
                go_wp2_with fail
                first | exact hK x (Below.refl _ _) | exact Below.refl _ _
              simp only [Act.put, List.setIfInBounds_toArray, List.set_cons_succ, List.set_cons_zero]
              apply EqGo.run
              focus
                kernel_rfl
              focus
                intro x K hK
                go_wp2_with fail
                first | exact hK x (Below.refl _ _) | exact Below.refl _ _
              simp only [Act.put, List.setIfInBounds_toArray, List.set_cons_succ, List.set_cons_zero]
              apply EqGo.run
              focus
                kernel_rfl
              focus
                intro x K hK
                go_wp2_with fail
                first | exact hK x (Below.refl _ _) | exact Below.refl _ _
              simp only [Act.put, List.setIfInBounds_toArray, List.set_cons_succ, List.set_cons_zero]
              apply EqGo.run
              focus
                kernel_rfl
              focus
                intro x K hK
                go_wp2_with fail
                first | exact hK x (Below.refl _ _) | exact Below.refl _ _
              simp only [Act.put, List.setIfInBounds_toArray, List.set_cons_succ, List.set_cons_zero]
              apply EqGo.run (c := (.int .i64 (-1)))
              focus
                kernel_rfl
              focus
                intro x K hK
                go_wp2_with fail
                refine (Hid.out HJB x.val x.below).mono ?_
                rintro e x' ⟨rfl, hb'⟩
                exact hK ⟨x', x.below.trans (hb'.mono x.below.size)⟩ hb'
              simp only [Act.put, List.setIfInBounds_toArray, List.set_cons_succ, List.set_cons_zero]
              apply EqGo.run
              focus
                kernel_rfl
              focus
                intro x K hK
                go_wp2_with fail
                first | exact hK x (Below.refl _ _) | exact Below.refl _ _
              simp only [Act.put, List.setIfInBounds_toArray, List.set_cons_succ, List.set_cons_zero]
              apply EqGo.run
              focus
                kernel_rfl
              focus
                intro x K hK
                go_wp2_with fail
                first | exact hK x (Below.refl _ _) | exact Below.refl _ _
              simp only [Act.put, List.setIfInBounds_toArray, List.set_cons_succ, List.set_cons_zero]
              apply EqGo.run
              focus
                kernel_rfl
              focus
                intro x K hK
                go_wp2_with fail
                first | exact hK x (Below.refl _ _) | exact Below.refl _ _
              simp only [Act.put, List.setIfInBounds_toArray, List.set_cons_succ, List.set_cons_zero]
              intro xv
              have HS3 := Lib.hid (HS.out.below xv.below)
              clear z0 z1 y1 y2 HS
              go_wp2_with fail
              go_roundw
              case rel => exact ⟨k + 1, Nat.succ_le_of_lt hlt, by go_num, HS3⟩
              case measure => exact measJ hlt
        | true =>
          rw [jumpF_cyc _ _ (HCA.out rfl rfl)] at HJA
          apply EqGo.run
          focus
            kernel_rfl
          focus
            intro x K hK
            go_wp2_with fail
            first | exact hK x (Below.refl _ _) | exact Below.refl _ _
          simp only [Act.put, List.setIfInBounds_toArray, List.set_cons_succ, List.set_cons_zero]
          apply EqGo.run
          focus
            kernel_rfl
          focus
            intro x K hK
            go_wp2_with fail
            first | exact hK x (Below.refl _ _) | exact Below.refl _ _
          simp only [Act.put, List.setIfInBounds_toArray, List.set_cons_succ, List.set_cons_zero]
          apply EqGo.run
          focus
            kernel_rfl
          focus
            intro x K hK
            go_wp2_with fail
            first | exact hK x (Below.refl _ _) | exact Below.refl _ _
          simp only [Act.put, List.setIfInBounds_toArray, List.set_cons_succ, List.set_cons_zero]
          apply EqGo.run
          focus
            kernel_rfl
          focus
            intro x K hK
            go_wp2_with fail
            first | exact hK x (Below.refl _ _) | exact Below.refl _ _
          simp only [Act.put, List.setIfInBounds_toArray, List.set_cons_succ, List.set_cons_zero]
          apply EqGo.run
          focus
            kernel_rfl
          focus
            intro x K hK
            go_wp2_with fail
            first | exact hK x (Below.refl _ _) | exact Below.refl _ _
          simp only [Act.put, List.setIfInBounds_toArray, List.set_cons_succ, List.set_cons_zero]
          apply EqGo.run
          focus
            kernel_rfl
          focus
            intro x K hK
            go_wp2_with fail
            first | exact hK x (Below.refl _ _) | exact Below.refl _ _
          simp only [Act.put, List.setIfInBounds_toArray, List.set_cons_succ, List.set_cons_zero]
          apply EqGo.run
          focus
            kernel_rfl
          focus
            intro x K hK
            go_wp2_with fail
            first | exact hK x (Below.refl _ _) | exact Below.refl _ _
          simp only [Act.put, List.setIfInBounds_toArray, List.set_cons_succ, List.set_cons_zero]
          apply EqGo.run
          focus
            kernel_rfl
          focus
            intro x K hK
            go_wp2_with fail
            first | exact hK x (Below.refl _ _) | exact Below.refl _ _
          simp only [Act.put, List.setIfInBounds_toArray, List.set_cons_succ, List.set_cons_zero]
          apply EqGo.run
          focus
            kernel_rfl
          focus
            intro x K hK
            go_wp2_with fail
            first | exact hK x (Below.refl _ _) | exact Below.refl _ _
          simp only [Act.put, List.setIfInBounds_toArray, List.set_cons_succ, List.set_cons_zero]
          apply EqGo.run
          focus
            kernel_rfl
          focus
            intro x K hK
            go_wp2_with fail
            first | exact hK x (Below.refl _ _) | exact Below.refl _ _
          simp only [Act.put, List.setIfInBounds_toArray, List.set_cons_succ, List.set_cons_zero]
          apply EqGo.run
          focus
            kernel_rfl
          focus
            intro x K hK
            go_wp2_with fail
            first | exact hK x (Below.refl _ _) | exact Below.refl _ _
          simp only [Act.put, List.setIfInBounds_toArray, List.set_cons_succ, List.set_cons_zero]
          apply EqGo.run
          focus
            kernel_rfl
          focus
            intro x K hK
            go_wp2_with fail
            first | exact hK x (Below.refl _ _) | exact Below.refl _ _
          simp only [Act.put, List.setIfInBounds_toArray, List.set_cons_succ, List.set_cons_zero]
          apply EqGo.run
          focus
            kernel_rfl
          focus
            intro x K hK
            go_wp2_with fail
            first | exact hK x (Below.refl _ _) | exact Below.refl _ _
          simp only [Act.put, List.setIfInBounds_toArray, List.set_cons_succ, List.set_cons_zero]
          apply EqGo.run
          focus
            kernel_rfl
          focus
            intro x K hK
            go_wp2_with fail
            first | exact hK x (Below.refl _ _) | exact Below.refl _ _
          simp only [Act.put, List.setIfInBounds_toArray, List.set_cons_succ, List.set_cons_zero]
          apply EqGo.run
          focus
            kernel_rfl
          focus
            intro x K hK
            go_wp2_with fail
            first | exact hK x (Below.refl _ _) | exact Below.refl _ _
          simp only [Act.put, List.setIfInBounds_toArray, List.set_cons_succ, List.set_cons_zero]
          apply EqGo.run
          focus
            kernel_rfl
          focus
            intro x K hK
            go_wp2_with fail
            first | exact hK x (Below.refl _ _) | exact Below.refl _ _
          simp only [Act.put, List.setIfInBounds_toArray, List.set_cons_succ, List.set_cons_zero]
          apply EqGo.run
          focus
            kernel_rfl
          focus
            intro x K hK
            go_wp2_with fail
            first | exact hK x (Below.refl _ _) | exact Below.refl _ _
          simp only [Act.put, List.setIfInBounds_toArray, List.set_cons_succ, List.set_cons_zero]
          apply EqGo.run
          focus
            kernel_rfl
          focus
            intro x K hK
            go_wp2_with fail
            first | exact hK x (Below.refl _ _) | exact Below.refl _ _
          simp only [Act.put, List.setIfInBounds_toArray, List.set_cons_succ, List.set_cons_zero]
          apply EqGo.run
          focus
            kernel_rfl
          focus
            intro x K hK
            go_wp2_with fail
            first | exact hK x (Below.refl _ _) | exact Below.refl _ _
          simp only [Act.put, List.setIfInBounds_toArray, List.set_cons_succ, List.set_cons_zero]
          apply EqGo.run
          focus
            kernel_rfl
          focus
            intro x K hK
            go_wp2_with fail
            first | exact hK x (Below.refl _ _) | exact Below.refl _ _
          simp only [Act.put, List.setIfInBounds_toArray, List.set_cons_succ, List.set_cons_zero]
          apply EqGo.run
          focus
            kernel_rfl
          focus
            intro x K hK
            go_wp2_with fail
            first | exact hK x (Below.refl _ _) | exact Below.refl _ _
          simp only [Act.put, List.setIfInBounds_toArray, List.set_cons_succ, List.set_cons_zero]
          apply EqGo.run
          focus
            kernel_rfl
          focus
            intro x K hK
            go_wp2_with fail
            first | exact hK x (Below.refl _ _) | exact Below.refl _ _
          simp only [Act.put, List.setIfInBounds_toArray, List.set_cons_succ, List.set_cons_zero]
          apply EqGo.run
          focus
            kernel_rfl
          focus
            intro x K hK
            go_wp2_with fail
            first | exact hK x (Below.refl _ _) | exact Below.refl _ _
          simp only [Act.put, List.setIfInBounds_toArray, List.set_cons_succ, List.set_cons_zero]
          apply EqGo.run (c := (.int .i64 (-1)))
          focus
            kernel_rfl
          focus
            intro x K hK
            go_wp2_with fail
            refine (Hid.out HJA x.val x.below).mono ?_
            rintro e x' ⟨rfl, hb'⟩
            exact hK ⟨x', x.below.trans (hb'.mono x.below.size)⟩ hb'
          simp only [Act.put, List.setIfInBounds_toArray, List.set_cons_succ, List.set_cons_zero]
          apply EqGo.run
          focus
            kernel_rfl
          focus
            intro x K hK
            go_wp2_with fail
            first | exact hK x (Below.refl _ _) | exact Below.refl _ _
          simp only [Act.put, List.setIfInBounds_toArray, List.set_cons_succ, List.set_cons_zero]
          apply EqGo.run
          focus
            kernel_rfl
          focus
            intro x K hK
            go_wp2_with fail
            first | exact hK x (Below.refl _ _) | exact Below.refl _ _
          simp only [Act.put, List.setIfInBounds_toArray, List.set_cons_succ, List.set_cons_zero]
          apply EqGo.run
          focus
            kernel_rfl
          focus
            intro x K hK
            go_wp2_with fail
            first | exact hK x (Below.refl _ _) | exact Below.refl _ _
          simp only [Act.put, List.setIfInBounds_toArray, List.set_cons_succ, List.set_cons_zero]
          cases pb with
          | false =>
            apply EqGo.run
            focus
              kernel_rfl
            focus
              intro x K hK
              go_wp2_with fail
              first | exact hK x (Below.refl _ _) | exact Below.refl _ _
            simp only [Act.put, List.setIfInBounds_toArray, List.set_cons_succ, List.set_cons_zero]
            apply EqGo.run
            focus
              kernel_rfl
            focus
              intro x K hK
              go_wp2_with fail
              first | exact hK x (Below.refl _ _) | exact Below.refl _ _
            simp only [Act.put, List.setIfInBounds_toArray, List.set_cons_succ, List.set_cons_zero]
            apply EqGo.skip
            focus
              kernel_rfl
            simp only [Act.put, List.setIfInBounds_toArray, List.set_cons_succ, List.set_cons_zero]
            apply EqGo.skip
            focus
              kernel_rfl
            simp only [Act.put, List.setIfInBounds_toArray, List.set_cons_succ, List.set_cons_zero]
            apply EqGo.skip
            focus
              kernel_rfl
            simp only [Act.put, List.setIfInBounds_toArray, List.set_cons_succ, List.set_cons_zero]
            apply EqGo.skip
            focus
              kernel_rfl
            simp only [Act.put, List.setIfInBounds_toArray, List.set_cons_succ, List.set_cons_zero]
            apply EqGo.skip
            focus
              kernel_rfl
            simp only [Act.put, List.setIfInBounds_toArray, List.set_cons_succ, List.set_cons_zero]
            apply EqGo.skip
            focus
              kernel_rfl
            simp only [Act.put, List.setIfInBounds_toArray, List.set_cons_succ, List.set_cons_zero]
            apply EqGo.skip
            focus
              kernel_rfl
            simp only [Act.put, List.setIfInBounds_toArray, List.set_cons_succ, List.set_cons_zero]
            apply EqGo.skip
            focus
              kernel_rfl
            simp only [Act.put, List.setIfInBounds_toArray, List.set_cons_succ, List.set_cons_zero]
            apply EqGo.skip
            focus
              kernel_rfl
            simp only [Act.put, List.setIfInBounds_toArray, List.set_cons_succ, List.set_cons_zero]
            apply EqGo.skip
            focus
              kernel_rfl
            simp only [Act.put, List.setIfInBounds_toArray, List.set_cons_succ, List.set_cons_zero]
            apply EqGo.skip
            focus
              kernel_rfl
            simp only [Act.put, List.setIfInBounds_toArray, List.set_cons_succ, List.set_cons_zero]
            apply EqGo.skip
            focus
              kernel_rfl
            simp only [Act.put, List.setIfInBounds_toArray, List.set_cons_succ, List.set_cons_zero]
            apply EqGo.run
            focus
              kernel_rfl
            focus
              intro x K hK
              go_wp2_with fail
              first | exact hK x (Below.refl _ _) | exact Below.refl _ _
            simp only [Act.put, List.setIfInBounds_toArray, List.set_cons_succ, List.set_cons_zero]
            apply EqGo.run
            focus
              kernel_rfl
            focus
              intro x K hK
              go_wp2_with fail
              first | exact hK x (Below.refl _ _) | exact Below.refl _ _
            simp only [Act.put, List.setIfInBounds_toArray, List.set_cons_succ, List.set_cons_zero]
            apply EqGo.skip
            focus
              kernel_rfl
            simp only [Act.put, List.setIfInBounds_toArray, List.set_cons_succ, List.set_cons_zero]
            apply EqGo.skip
            focus
              kernel_rfl
            simp only [Act.put, List.setIfInBounds_toArray, List.set_cons_succ, List.set_cons_zero]
            apply EqGo.skip
            focus
              kernel_rfl
            simp only [Act.put, List.setIfInBounds_toArray, List.set_cons_succ, List.set_cons_zero]
            apply EqGo.skip
            focus
              kernel_rfl
            simp only [Act.put, List.setIfInBounds_toArray, List.set_cons_succ, List.set_cons_zero]
            apply EqGo.skip
            focus
              kernel_rfl
            simp only [Act.put, List.setIfInBounds_toArray, List.set_cons_succ, List.set_cons_zero]
            apply EqGo.skip
            focus
              kernel_rfl
            simp only [Act.put, List.setIfInBounds_toArray, List.set_cons_succ, List.set_cons_zero]
            apply EqGo.skip
            focus
              kernel_rfl
            simp only [Act.put, List.setIfInBounds_toArray, List.set_cons_succ, List.set_cons_zero]
            apply EqGo.skip
            focus
              kernel_rfl
            simp only [Act.put, List.setIfInBounds_toArray, List.set_cons_succ, List.set_cons_zero]
            apply EqGo.skip
            focus
              kernel_rfl
            simp only [Act.put, List.setIfInBounds_toArray, List.set_cons_succ, List.set_cons_zero]
            apply EqGo.run
            focus
              kernel_rfl
            focus
              intro x K hK
              go_wp2_with fail
              first | exact hK x (Below.refl _ _) | exact Below.refl _ _
            simp only [Act.put, List.setIfInBounds_toArray, List.set_cons_succ, List.set_cons_zero]
            apply EqGo.run
            focus
              kernel_rfl
            focus
              intro x K hK
              go_wp2_with fail
              first | exact hK x (Below.refl _ _) | exact Below.refl _ _
            simp only [Act.put, List.setIfInBounds_toArray, List.set_cons_succ, List.set_cons_zero]
            intro xv
            have HS3 := Lib.hid (HS.out.below xv.below)
            clear z0 z1 y1 y2 HS
            go_wp2_with fail
            go_roundw
            case rel => exact ⟨k + 1, Nat.succ_le_of_lt hlt, by go_num, HS3⟩
            case measure => exact measJ hlt
          | true =>
            rw [HVB.out rfl] at y2
            cases tb with
            | false =>
              apply EqGo.run
              focus
                kernel_rfl
              focus
                intro x K hK
                go_wp2_with fail
                first | exact hK x (Below.refl _ _) | exact Below.refl _ _
              simp only [Act.put, List.setIfInBounds_toArray, List.set_cons_succ, List.set_cons_zero]
              apply EqGo.run
              focus
                kernel_rfl
              focus
                intro x K hK
                go_wp2_with fail
                first | exact hK x (Below.refl _ _) | exact Below.refl _ _
              simp only [Act.put, List.setIfInBounds_toArray, List.set_cons_succ, List.set_cons_zero]
              apply EqGo.run
              focus
                kernel_rfl
              focus
                intro x K hK
                go_wp2_with fail
                first | exact hK x (Below.refl _ _) | exact Below.refl _ _
              simp only [Act.put, List.setIfInBounds_toArray, List.set_cons_succ, List.set_cons_zero]
              apply EqGo.run
              focus
                kernel_rfl
              focus
                intro x K hK
                go_wp2_with fail
                first | exact hK x (Below.refl _ _) | exact Below.refl _ _
              simp only [Act.put, List.setIfInBounds_toArray, List.set_cons_succ, List.set_cons_zero]
              apply EqGo.run
              focus
                kernel_rfl
              focus
                intro x K hK
                go_wp2_with fail
                first | exact hK x (Below.refl _ _) | exact Below.refl _ _
              simp only [Act.put, List.setIfInBounds_toArray, List.set_cons_succ, List.set_cons_zero]
              apply EqGo.run
              focus
                kernel_rfl
              focus
                intro x K hK
                go_wp2_with fail
                first | exact hK x (Below.refl _ _) | exact Below.refl _ _
              simp only [Act.put, List.setIfInBounds_toArray, List.set_cons_succ, List.set_cons_zero]
              apply EqGo.run
              focus
                kernel_rfl
              focus
                intro x K hK
                go_wp2_with fail
                first | exact hK x (Below.refl _ _) | exact Below.refl _ _
              simp only [Act.put, List.setIfInBounds_toArray, List.set_cons_succ, List.set_cons_zero]
              apply EqGo.run
              focus
                kernel_rfl
              focus
                intro x K hK
                go_wp2_with fail
                first | exact hK x (Below.refl _ _) | exact Below.refl _ _
              simp only [Act.put, List.setIfInBounds_toArray, List.set_cons_succ, List.set_cons_zero]
              apply EqGo.run
              focus
                kernel_rfl
              focus
                intro x K hK
                go_wp2_with fail
                first | exact hK x (Below.refl _ _) | exact Below.refl _ _
              simp only [Act.put, List.setIfInBounds_toArray, List.set_cons_succ, List.set_cons_zero]
              apply EqGo.run
              focus
                kernel_rfl
              focus
                intro x K hK
                go_wp2_with fail
                first | exact hK x (Below.refl _ _) | exact Below.refl _ _
              simp only [Act.put, List.setIfInBounds_toArray, List.set_cons_succ, List.set_cons_zero]
              apply EqGo.run
              focus
                kernel_rfl
              focus
                intro x K hK
                go_wp2_with fail
                first | exact hK x (Below.refl _ _) | exact Below.refl _ _
              simp only [Act.put, List.setIfInBounds_toArray, List.set_cons_succ, List.set_cons_zero]
              apply EqGo.run
              focus
                kernel_rfl
              focus
                intro x K hK
                go_wp2_with fail
                first | exact hK x (Below.refl _ _) | exact Below.refl _ _
              simp only [Act.put, List.setIfInBounds_toArray, List.set_cons_succ, List.set_cons_zero]
              apply EqGo.run
              focus
                kernel_rfl
              focus
                intro x K hK
                go_wp2_with fail
                first | exact hK x (Below.refl _ _) | exact Below.refl _ _
              simp only [Act.put, List.setIfInBounds_toArray, List.set_cons_succ, List.set_cons_zero]
              apply EqGo.run
              focus
                kernel_rfl
              focus
                intro x K hK
                go_wp2_with fail
                first | exact hK x (Below.refl _ _) | exact Below.refl _ _
              simp only [Act.put, List.setIfInBounds_toArray, List.set_cons_succ, List.set_cons_zero]
              apply EqGo.run
              focus
                kernel_rfl
              focus
                intro x K hK
                go_wp2_with fail
                first | exact hK x (Below.refl _ _) | exact Below.refl _ _
              simp only [Act.put, List.setIfInBounds_toArray, List.set_cons_succ, List.set_cons_zero]
              apply EqGo.run
              focus
                kernel_rfl
              focus
                intro x K hK
                go_wp2_with fail
                first | exact hK x (Below.refl _ _) | exact Below.refl _ _
              simp only [Act.put, List.setIfInBounds_toArray, List.set_cons_succ, List.set_cons_zero]
              apply EqGo.skip
              focus
                kernel_rfl
              simp only [Act.put, List.setIfInBounds_toArray, List.set_cons_succ, List.set_cons_zero]
              apply EqGo.skip
              focus
                kernel_rfl
              simp only [Act.put, List.setIfInBounds_toArray, List.set_cons_succ, List.set_cons_zero]
              apply EqGo.skip
              focus
                kernel_rfl
              simp only [Act.put, List.setIfInBounds_toArray, List.set_cons_succ, List.set_cons_zero]
              apply EqGo.skip
              focus
                kernel_rfl
              simp only [Act.put, List.setIfInBounds_toArray, List.set_cons_succ, List.set_cons_zero]
              apply EqGo.skip
              focus
                kernel_rfl
              simp only [Act.put, List.setIfInBounds_toArray, List.set_cons_succ, List.set_cons_zero]
              apply EqGo.skip
              focus
                kernel_rfl
              simp only [Act.put, List.setIfInBounds_toArray, List.set_cons_succ, List.set_cons_zero]
              apply EqGo.skip
              focus
                kernel_rfl
              simp only [Act.put, List.setIfInBounds_toArray, List.set_cons_succ, List.set_cons_zero]
              apply EqGo.skip
              focus
                kernel_rfl
              simp only [Act.put, List.setIfInBounds_toArray, List.set_cons_succ, List.set_cons_zero]
              apply EqGo.skip
              focus
                kernel_rfl
              simp only [Act.put, List.setIfInBounds_toArray, List.set_cons_succ, List.set_cons_zero]
              apply EqGo.run
              focus
                kernel_rfl
              focus
                intro x K hK
                go_wp2_with fail
                first | exact hK x (Below.refl _ _) | exact Below.refl _ _
              simp only [Act.put, List.setIfInBounds_toArray, List.set_cons_succ, List.set_cons_zero]
              apply EqGo.run
              focus
                kernel_rfl
              focus
                intro x K hK
                go_wp2_with fail
                first | exact hK x (Below.refl _ _) | exact Below.refl _ _
              simp only [Act.put, List.setIfInBounds_toArray, List.set_cons_succ, List.set_cons_zero]
              intro xv
              have HS3 := Lib.hid (HS.out.below xv.below)
              clear z0 z1 y1 y2 HS
              go_wp2_with fail
              go_roundw
              case rel => exact ⟨k + 1, Nat.succ_le_of_lt hlt, by go_num, HS3⟩
              case measure => exact measJ hlt
            | true =>
              rw [jumpF_cyc _ _ (HCB.out rfl rfl)] at HJB
              apply EqGo.run
              focus
                kernel_rfl
              focus
                intro x K hK
                go_wp2_with fail
                first | exact hK x (Below.refl _ _) | exact Below.refl _ _
              simp only [Act.put, List.setIfInBounds_toArray, List.set_cons_succ, List.set_cons_zero]
              apply EqGo.run
              focus
                kernel_rfl
              focus
                intro x K hK
                go_wp2_with fail
                first | exact hK x (Below.refl _ _) | exact Below.refl _ _
              simp only [Act.put, List.setIfInBounds_toArray, List.set_cons_succ, List.set_cons_zero]
              apply EqGo.run
              focus
                kernel_rfl
              focus
                intro x K hK
                go_wp2_with fail
                first | exact hK x (Below.refl _ _) | exact Below.refl _ _
              simp only [Act.put, List.setIfInBounds_toArray, List.set_cons_succ, List.set_cons_zero]
              apply EqGo.run
              focus
                kernel_rfl
              focus
                intro x K hK
                go_wp2_with fail
                first | exact hK x (Below.refl _ _) | exact Below.refl _ _
              simp only [Act.put, List.setIfInBounds_toArray, List.set_cons_succ, List.set_cons_zero]
              apply EqGo.run
              focus
                kernel_rfl
              focus
                intro x K hK
                go_wp2_with fail
                first | exact hK x (Below.refl _ _) | exact Below.refl _ _
              simp only [Act.put, List.setIfInBounds_toArray, List.set_cons_succ, List.set_cons_zero]
              apply EqGo.run
              focus
                kernel_rfl
              focus
                intro x K hK
                go_wp2_with fail
                first | exact hK x (Below.refl _ _) | exact Below.refl _ _
              simp only [Act.put, List.setIfInBounds_toArray, List.set_cons_succ, List.set_cons_zero]
              apply EqGo.run
              focus
                kernel_rfl
              focus
                intro x K hK
                go_wp2_with fail
                first | exact hK x (Below.refl _ _) | exact Below.refl _ _
              simp only [Act.put, List.setIfInBounds_toArray, List.set_cons_succ, List.set_cons_zero]
              apply EqGo.run
              focus
                kernel_rfl
              focus
                intro x K hK
                go_wp2_with fail
                first | exact hK x (Below.refl _ _) | exact Below.refl _ _
              simp only [Act.put, List.setIfInBounds_toArray, List.set_cons_succ, List.set_cons_zero]
              apply EqGo.run
              focus
                kernel_rfl
              focus
                intro x K hK
                go_wp2_with fail
                first | exact hK x (Below.refl _ _) | exact Below.refl _ _
              simp only [Act.put, List.setIfInBounds_toArray, List.set_cons_succ, List.set_cons_zero]
              apply EqGo.run
              focus
                kernel_rfl
              focus
                intro x K hK
                go_wp2_with fail
                first | exact hK x (Below.refl _ _) | exact Below.refl _ _
              simp only [Act.put, List.setIfInBounds_toArray, List.set_cons_succ, List.set_cons_zero]
              apply EqGo.run
              focus
                kernel_rfl
              focus
                intro x K hK
                go_wp2_with fail
                first | exact hK x (Below.refl _ _) | exact Below.refl _ _
              simp only [Act.put, List.setIfInBounds_toArray, List.set_cons_succ, List.set_cons_zero]
              apply EqGo.run
              focus
                kernel_rfl
              focus
                intro x K hK
                go_wp2_with fail
                first | exact hK x (Below.refl _ _) | exact Below.refl _ _
              simp only [Act.put, List.setIfInBounds_toArray, List.set_cons_succ, List.set_cons_zero]
              apply EqGo.run
              focus
                kernel_rfl
              focus
                intro x K hK
                go_wp2_with fail
                first | exact hK x (Below.refl _ _) | exact Below.refl _ _
              simp only [Act.put, List.setIfInBounds_toArray, List.set_cons_succ, List.set_cons_zero]
              apply EqGo.run
              focus
                kernel_rfl
              focus
                intro x K hK
                go_wp2_with fail
                first | exact hK x (Below.refl _ _) | exact Below.refl _ _
              simp only [Act.put, List.setIfInBounds_toArray, List.set_cons_succ, List.set_cons_zero]
              apply EqGo.run
              focus
                kernel_rfl
              focus
                intro x K hK
                go_wp2_with fail
                first | exact hK x (Below.refl _ _) | exact Below.refl _ _
              simp only [Act.put, List.setIfInBounds_toArray, List.set_cons_succ, List.set_cons_zero]
              apply EqGo.run
              focus
                kernel_rfl
              focus
                intro x K hK
                go_wp2_with fail
                first | exact hK x (Below.refl _ _) | exact Below.refl _ _
              simp only [Act.put, List.setIfInBounds_toArray, List.set_cons_succ, List.set_cons_zero]
              apply EqGo.run
              focus
                kernel_rfl
              focus
                intro x K hK
                go_wp2_with fail
                first | exact hK x (Below.refl _ _) | exact Below.refl _ _
              simp only [Act.put, List.setIfInBounds_toArray, List.set_cons_succ, List.set_cons_zero]
              apply EqGo.run
              focus
                kernel_rfl
              focus
                intro x K hK
                go_wp2_with fail
                first | exact hK x (Below.refl _ _) | exact Below.refl _ _
              simp only [Act.put, List.setIfInBounds_toArray, List.set_cons_succ, List.set_cons_zero]
              apply EqGo.run
              focus
                kernel_rfl
              focus
                intro x K hK
                go_wp2_with fail
                first | exact hK x (Below.refl _ _) | exact Below.refl _ _
              simp only [Act.put, List.setIfInBounds_toArray, List.set_cons_succ, List.set_cons_zero]
              apply EqGo.run
              focus
                kernel_rfl
              focus
                intro x K hK
                go_wp2_with fail
                first | exact hK x (Below.refl _ _) | exact Below.refl _ _
              simp only [Act.put, List.setIfInBounds_toArray, List.set_cons_succ, List.set_cons_zero]
              apply EqGo.run
              focus
                kernel_rfl
              focus
                intro x K hK
                go_wp2_with fail
                first | exact hK x (Below.refl _ _) | exact Below.refl _ _
              simp only [Act.put, List.setIfInBounds_toArray, List.set_cons_succ, List.set_cons_zero]
              apply EqGo.run
              focus
                kernel_rfl
              focus
                intro x K hK
                go_wp2_with fail
                first | exact hK x (Below.refl _ _) | exact Below.refl _ _
              simp only [Act.put, List.setIfInBounds_toArray, List.set_cons_succ, List.set_cons_zero]
              apply EqGo.run
              focus
                kernel_rfl
              focus
                intro x K hK
                go_wp2_with fail
                first | exact hK x (Below.refl _ _) | exact Below.refl _ _
              simp only [Act.put, List.setIfInBounds_toArray, List.set_cons_succ, List.set_cons_zero]
              apply EqGo.run (c := (.int .i64 (-1)))
              focus
                kernel_rfl
              focus
                intro x K hK
                go_wp2_with fail
                refine (Hid.out HJB x.val x.below).mono ?_
                rintro e x' ⟨rfl, hb'⟩
                exact hK ⟨x', x.below.trans (hb'.mono x.below.size)⟩ hb'
              simp only [Act.put, List.setIfInBounds_toArray, List.set_cons_succ, List.set_cons_zero]
              apply EqGo.run
              focus
                kernel_rfl
              focus
                intro x K hK
                go_wp2_with fail
                first | exact hK x (Below.refl _ _) | exact Below.refl _ _
              simp only [Act.put, List.setIfInBounds_toArray, List.set_cons_succ, List.set_cons_zero]
              apply EqGo.run
              focus
                kernel_rfl
              focus
                intro x K hK
                go_wp2_with fail
                first | exact hK x (Below.refl _ _) | exact Below.refl _ _
              simp only [Act.put, List.setIfInBounds_toArray, List.set_cons_succ, List.set_cons_zero]
              apply EqGo.run
              focus
                kernel_rfl
              focus
                intro x K hK
                go_wp2_with fail
                first | exact hK x (Below.refl _ _) | exact Below.refl _ _
              simp only [Act.put, List.setIfInBounds_toArray, List.set_cons_succ, List.set_cons_zero]
              intro xv
              have HS3 := Lib.hid (HS.out.below xv.below)
              clear z0 z1 y1 y2 HS
              go_wp2_with fail
              go_roundw
              case rel => exact ⟨k + 1, Nat.succ_le_of_lt hlt, by go_num, HS3⟩
              case measure => exact measJ hlt
    · have hkn : n = k := by omega
      subst hkn
      clear hlt hk
      have e0 := HS.out.k.cell 0
      have e1 := HS.out.k.cell 1
      simp only [List.getElem?_toArray, List.getElem?_cons_zero, List.getElem?_cons_succ] at e0 e1
      rw [HN.out] at e0
      have HPS := Lib.hid (pass_any gd 0 cd Y 0 wr HS.out.y HOY.out (by decide))
      rw [HN.out, show ((0 : Nat) : Int) = 0 from rfl] at HPS
      go_wp2_with fail
      refine HPS.out.mono ?_
      rintro e w9 ⟨ge, ce, E, rfl, ho9, hpt9, hb9⟩
      obtain rfl : Y = E := (PassTo.fix HPT.out.end_).uniq hpt9
      have HE9 := Lib.hid (rdI_of ho9 rfl)
      replace HS := Lib.hid (HS.out.below hb9)
      rw [HN.out]
      clear e0 e1 HPS ho9 hpt9 hb9
      go_upto_region 22 with (fail)
      obtain ⟨W10, hW10⟩ : ∃ W10, W10 = w9.alloc (.cells #[.slice (some ⟨ge, 0, none⟩) n ce, .int .i64 0] 29) := ⟨_, rfl⟩
      have hb10 : Below w9.heap.size w9 W10 := by rw [hW10]; exact (Below.refl _ _).alloc (Nat.le_refl _) _
      have HK10 := Lib.hid (show Blk W10 w9.heap.size 29 #[.slice (some ⟨ge, 0, none⟩) n ce, .int .i64 0] by rw [hW10]; exact Blk.new w9 _ _)
      replace HE9 := Lib.hid (HE9.out.below hb10)
      replace HS := Lib.hid (HS.out.below hb10)
      rw [← hW10]
      clear hW10 hb10
      generalize w9.heap.size = g10 at *
      have e0 := HS.out.k.cell 0
      have f0 := HK10.out.cell 0
      simp only [List.getElem?_toArray, List.getElem?_cons_zero] at e0 f0
      rw [HN.out] at e0
      go_wp2_with fail
      clear e0 f0
      go_loopw [11] (fun v wr => ∃ k : Nat, k ≤ n ∧ v = .int .i64 k ∧ Hid (TjW w wr g5 gd cd gr b0 Y) ∧ Hid (Blk wr g10 29 #[.slice (some ⟨ge, 0, none⟩) n ce, .int .i64 0]) ∧ Hid (RdL wr 4 insc (some ⟨ge, 0, none⟩) Y)) (fun v _ => n - (intOf v).toNat)
      case atStart => exact ⟨0, Nat.zero_le _, rfl, HS, HK10, HE9⟩
      case round =>
        clear HS HK10 HE9
        obtain ⟨k, hk, rfl, HS, HK10, HE9⟩ := hrel
        have f0 := HK10.out.cell 0
        simp only [List.getElem?_toArray, List.getElem?_cons_zero] at f0
        by_cases hlt : k < n
        · have hkL : k < Y.length := by rw [HN.out]; exact hlt
          obtain ⟨x, hx⟩ := at_some hkL
          have hcy := (HS.out.y.at_ hkL).2
          have hce := (HE9.out.at_ hkL).2
          rw [getElem_of? hkL hx] at hcy hce
          have d0 := Later.cell (hcy 0 _ rfl)
          have d1 := Later.cell (hcy 1 _ rfl)
          have d2 := Later.cell (hcy 2 _ rfl)
          have c0 := Later.cell (hce 0 _ rfl)
          have c1 := Later.cell (hce 1 _ rfl)
          have c2 := Later.cell (hce 2 _ rfl)
          have h0 := HS.out.k.cell 0
          simp only [List.getElem?_toArray, List.getElem?_cons_zero] at h0
          rw [HN.out] at h0
          have z0 := Later.cell h0
          have z1 := Later.cell f0
          simp only [Nat.add_zero, Nat.zero_add] at d0 d1 d2 c0 c1 c2
          have q0 : (x.op != x.op) = false := bne_self_eq_false x.op
          have q1 : (x.a != x.a) = false := bne_self_eq_false x.a
          have q2 : (x.b != x.b) = false := bne_self_eq_false x.b
          clear hcy hce hx hkL h0
          go_upto_region 27 with (fail)
          clear f0
          refine wp_region_eq (by kernel_rfl) (by kernel_rfl) ?_
          apply EqGo.run
          focus
            kernel_rfl
          focus
            intro x K hK
            go_wp2_with fail
            first | exact hK x (Below.refl _ _) | exact Below.refl _ _
          simp only [Act.put, List.setIfInBounds_toArray, List.set_cons_succ, List.set_cons_zero]
          apply EqGo.run
          focus
            kernel_rfl
          focus
            intro x K hK
            go_wp2_with fail
            first | exact hK x (Below.refl _ _) | exact Below.refl _ _
          simp only [Act.put, List.setIfInBounds_toArray, List.set_cons_succ, List.set_cons_zero]
          apply EqGo.run
          focus
            kernel_rfl
          focus
            intro x K hK
            go_wp2_with fail
            first | exact hK x (Below.refl _ _) | exact Below.refl _ _
          simp only [Act.put, List.setIfInBounds_toArray, List.set_cons_succ, List.set_cons_zero]
          apply EqGo.run
          focus
            kernel_rfl
          focus
            intro x K hK
            go_wp2_with fail
            first | exact hK x (Below.refl _ _) | exact Below.refl _ _
          simp only [Act.put, List.setIfInBounds_toArray, List.set_cons_succ, List.set_cons_zero]
          apply EqGo.run
          focus
            kernel_rfl
          focus
            intro x K hK
            go_wp2_with fail
            first | exact hK x (Below.refl _ _) | exact Below.refl _ _
          simp only [Act.put, List.setIfInBounds_toArray, List.set_cons_succ, List.set_cons_zero]
          apply EqGo.run
          focus
            kernel_rfl
          focus
            intro x K hK
            go_wp2_with fail
            first | exact hK x (Below.refl _ _) | exact Below.refl _ _
          simp only [Act.put, List.setIfInBounds_toArray, List.set_cons_succ, List.set_cons_zero]
          apply EqGo.run
          focus
            kernel_rfl
          focus
            intro x K hK
            go_wp2_with fail
            first | exact hK x (Below.refl _ _) | exact Below.refl _ _
          simp only [Act.put, List.setIfInBounds_toArray, List.set_cons_succ, List.set_cons_zero]
          apply EqGo.run
          focus
            kernel_rfl
          focus
            intro x K hK
            go_wp2_with fail
            first | exact hK x (Below.refl _ _) | exact Below.refl _ _
          simp only [Act.put, List.setIfInBounds_toArray, List.set_cons_succ, List.set_cons_zero]
          apply EqGo.run
          focus
            kernel_rfl
          focus
            intro x K hK
            go_wp2_with fail
            first | exact hK x (Below.refl _ _) | exact Below.refl _ _
          simp only [Act.put, List.setIfInBounds_toArray, List.set_cons_succ, List.set_cons_zero]
          apply EqGo.run
          focus
            kernel_rfl
          focus
            intro x K hK
            go_wp2_with fail
            first | exact hK x (Below.refl _ _) | exact Below.refl _ _
          simp only [Act.put, List.setIfInBounds_toArray, List.set_cons_succ, List.set_cons_zero]
          apply EqGo.run
          focus
            kernel_rfl
          focus
            intro x K hK
            go_wp2_with fail
            first | exact hK x (Below.refl _ _) | exact Below.refl _ _
          simp only [Act.put, List.setIfInBounds_toArray, List.set_cons_succ, List.set_cons_zero]
          apply EqGo.run
          focus
            kernel_rfl
          focus
            intro x K hK
            go_wp2_with fail
            first | exact hK x (Below.refl _ _) | exact Below.refl _ _
          simp only [Act.put, List.setIfInBounds_toArray, List.set_cons_succ, List.set_cons_zero]
          apply EqGo.run
          focus
            kernel_rfl
          focus
            intro x K hK
            go_wp2_with fail
            first | exact hK x (Below.refl _ _) | exact Below.refl _ _
          simp only [Act.put, List.setIfInBounds_toArray, List.set_cons_succ, List.set_cons_zero]
          apply EqGo.run
          focus
            kernel_rfl
          focus
            intro x K hK
            go_wp2_with fail
            first | exact hK x (Below.refl _ _) | exact Below.refl _ _
          simp only [Act.put, List.setIfInBounds_toArray, List.set_cons_succ, List.set_cons_zero]
          apply EqGo.run
          focus
            kernel_rfl
          focus
            intro x K hK
            go_wp2_with fail
            first | exact hK x (Below.refl _ _) | exact Below.refl _ _
          simp only [Act.put, List.setIfInBounds_toArray, List.set_cons_succ, List.set_cons_zero]
          apply EqGo.run
          focus
            kernel_rfl
          focus
            intro x K hK
            go_wp2_with fail
            first | exact hK x (Below.refl _ _) | exact Below.refl _ _
          simp only [Act.put, List.setIfInBounds_toArray, List.set_cons_succ, List.set_cons_zero]
          apply EqGo.run
          focus
            kernel_rfl
          focus
            intro x K hK
            go_wp2_with fail
            first | exact hK x (Below.refl _ _) | exact Below.refl _ _
          simp only [Act.put, List.setIfInBounds_toArray, List.set_cons_succ, List.set_cons_zero]
          apply EqGo.run
          focus
            kernel_rfl
          focus
            intro x K hK
            go_wp2_with fail
            first | exact hK x (Below.refl _ _) | exact Below.refl _ _
          simp only [Act.put, List.setIfInBounds_toArray, List.set_cons_succ, List.set_cons_zero]
          apply EqGo.run
          focus
            kernel_rfl
          focus
            intro x K hK
            go_wp2_with fail
            first | exact hK x (Below.refl _ _) | exact Below.refl _ _
          simp only [Act.put, List.setIfInBounds_toArray, List.set_cons_succ, List.set_cons_zero]
          apply EqGo.run
          focus
            kernel_rfl
          focus
            intro x K hK
            go_wp2_with fail
            first | exact hK x (Below.refl _ _) | exact Below.refl _ _
          simp only [Act.put, List.setIfInBounds_toArray, List.set_cons_succ, List.set_cons_zero]
          apply EqGo.run
          focus
            kernel_rfl
          focus
            intro x K hK
            go_wp2_with fail
            first | exact hK x (Below.refl _ _) | exact Below.refl _ _
          simp only [Act.put, List.setIfInBounds_toArray, List.set_cons_succ, List.set_cons_zero]
          apply EqGo.run
          focus
            kernel_rfl
          focus
            intro x K hK
            go_wp2_with fail
            first | exact hK x (Below.refl _ _) | exact Below.refl _ _
          simp only [Act.put, List.setIfInBounds_toArray, List.set_cons_succ, List.set_cons_zero]
          apply EqGo.run
          focus
            kernel_rfl
          focus
            intro x K hK
            go_wp2_with fail
            first | exact hK x (Below.refl _ _) | exact Below.refl _ _
          simp only [Act.put, List.setIfInBounds_toArray, List.set_cons_succ, List.set_cons_zero]
          apply EqGo.run
          focus
            kernel_rfl
          focus
            intro x K hK
            go_wp2_with fail
            first | exact hK x (Below.refl _ _) | exact Below.refl _ _
          simp only [Act.put, List.setIfInBounds_toArray, List.set_cons_succ, List.set_cons_zero]
          apply EqGo.run
          focus
            kernel_rfl
          focus
            intro x K hK
            go_wp2_with fail
            first | exact hK x (Below.refl _ _) | exact Below.refl _ _
          simp only [Act.put, List.setIfInBounds_toArray, List.set_cons_succ, List.set_cons_zero]
          apply EqGo.run
          focus
            kernel_rfl
          focus
            intro x K hK
            go_wp2_with fail
            first | exact hK x (Below.refl _ _) | exact Below.refl _ _
          simp only [Act.put, List.setIfInBounds_toArray, List.set_cons_succ, List.set_cons_zero]
          apply EqGo.run
          focus
            kernel_rfl
          focus
            intro x K hK
            go_wp2_with fail
            first | exact hK x (Below.refl _ _) | exact Below.refl _ _
          simp only [Act.put, List.setIfInBounds_toArray, List.set_cons_succ, List.set_cons_zero]
          apply EqGo.run
          focus
            kernel_rfl
          focus
            intro x K hK
            go_wp2_with fail
            first | exact hK x (Below.refl _ _) | exact Below.refl _ _
          simp only [Act.put, List.setIfInBounds_toArray, List.set_cons_succ, List.set_cons_zero]
          apply EqGo.run
          focus
            kernel_rfl
          focus
            intro x K hK
            go_wp2_with fail
            first | exact hK x (Below.refl _ _) | exact Below.refl _ _
          simp only [Act.put, List.setIfInBounds_toArray, List.set_cons_succ, List.set_cons_zero]
          apply EqGo.run
          focus
            kernel_rfl
          focus
            intro x K hK
            go_wp2_with fail
            first | exact hK x (Below.refl _ _) | exact Below.refl _ _
          simp only [Act.put, List.setIfInBounds_toArray, List.set_cons_succ, List.set_cons_zero]
          apply EqGo.run
          focus
            kernel_rfl
          focus
            intro x K hK
            go_wp2_with fail
            first | exact hK x (Below.refl _ _) | exact Below.refl _ _
          simp only [Act.put, List.setIfInBounds_toArray, List.set_cons_succ, List.set_cons_zero]
          apply EqGo.run
          focus
            kernel_rfl
          focus
            intro x K hK
            go_wp2_with fail
            first | exact hK x (Below.refl _ _) | exact Below.refl _ _
          simp only [Act.put, List.setIfInBounds_toArray, List.set_cons_succ, List.set_cons_zero]
          apply EqGo.run
          focus
            kernel_rfl
          focus
            intro x K hK
            go_wp2_with fail
            first | exact hK x (Below.refl _ _) | exact Below.refl _ _
          simp only [Act.put, List.setIfInBounds_toArray, List.set_cons_succ, List.set_cons_zero]
          apply EqGo.run
          focus
            kernel_rfl
          focus
            intro x K hK
            go_wp2_with fail
            first | exact hK x (Below.refl _ _) | exact Below.refl _ _
          simp only [Act.put, List.setIfInBounds_toArray, List.set_cons_succ, List.set_cons_zero]
          apply EqGo.run
          focus
            kernel_rfl
          focus
            intro x K hK
            go_wp2_with fail
            first | exact hK x (Below.refl _ _) | exact Below.refl _ _
          simp only [Act.put, List.setIfInBounds_toArray, List.set_cons_succ, List.set_cons_zero]
          apply EqGo.run
          focus
            kernel_rfl
          focus
            intro x K hK
            go_wp2_with fail
            first | exact hK x (Below.refl _ _) | exact Below.refl _ _
          simp only [Act.put, List.setIfInBounds_toArray, List.set_cons_succ, List.set_cons_zero]
          apply EqGo.run
          focus
            kernel_rfl
          focus
            intro x K hK
            go_wp2_with fail
            first | exact hK x (Below.refl _ _) | exact Below.refl _ _
          simp only [Act.put, List.setIfInBounds_toArray, List.set_cons_succ, List.set_cons_zero]
          apply EqGo.run
          focus
            kernel_rfl
          focus
            intro x K hK
            go_wp2_with fail
            first | exact hK x (Below.refl _ _) | exact Below.refl _ _
          simp only [Act.put, List.setIfInBounds_toArray, List.set_cons_succ, List.set_cons_zero]
          apply EqGo.run
          focus
            kernel_rfl
          focus
            intro x K hK
            go_wp2_with fail
            first | exact hK x (Below.refl _ _) | exact Below.refl _ _
          simp only [Act.put, List.setIfInBounds_toArray, List.set_cons_succ, List.set_cons_zero]
          apply EqGo.run
          focus
            kernel_rfl
          focus
            intro x K hK
            go_wp2_with fail
            first | exact hK x (Below.refl _ _) | exact Below.refl _ _
          simp only [Act.put, List.setIfInBounds_toArray, List.set_cons_succ, List.set_cons_zero]
          apply EqGo.run
          focus
            kernel_rfl
          focus
            intro x K hK
            go_wp2_with fail
            first | exact hK x (Below.refl _ _) | exact Below.refl _ _
          simp only [Act.put, List.setIfInBounds_toArray, List.set_cons_succ, List.set_cons_zero]
          apply EqGo.run
          focus
            kernel_rfl
          focus
            intro x K hK
            go_wp2_with fail
            first | exact hK x (Below.refl _ _) | exact Below.refl _ _
          simp only [Act.put, List.setIfInBounds_toArray, List.set_cons_succ, List.set_cons_zero]
          apply EqGo.run
          focus
            kernel_rfl
          focus
            intro x K hK
            go_wp2_with fail
            first | exact hK x (Below.refl _ _) | exact Below.refl _ _
          simp only [Act.put, List.setIfInBounds_toArray, List.set_cons_succ, List.set_cons_zero]
          intro xv
          have HS3 := Lib.hid (HS.out.below xv.below)
          have HK3 := Lib.hid (HK10.out.below xv.below)
          have HE3 := Lib.hid (HE9.out.below xv.below)
          clear z0 z1 d0 d1 d2 c0 c1 c2 HS HK10 HE9 q0 q1 q2
          go_wp2_with fail
          go_roundw
          case rel => exact ⟨k + 1, Nat.succ_le_of_lt hlt, by go_num, HS3, HK3, HE3⟩
          case measure => exact measJ hlt
        · have hkn2 : n = k := by omega
          subst hkn2
          clear hlt hk
          go_wp2_with fail
          go_ret
          exact ⟨rfl, HS.out.b⟩
end Go.Proofs.YtpogngdddendiaaDoor
