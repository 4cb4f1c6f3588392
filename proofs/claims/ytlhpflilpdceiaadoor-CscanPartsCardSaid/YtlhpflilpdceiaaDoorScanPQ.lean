/- The walk over package cscan's parts, up to a quote. Bounds on the lengths. -/
import Derived.Test.YtlhpflilpdceiaaDoorScanW7
set_option linter.unusedVariables false
set_option linter.unusedSimpArgs false
namespace Go.Proofs.YtlhpflilpdceiaaDoor
open Go.RowKit

set_option maxRecDepth 100000 in
set_option maxHeartbeats 8000000 in
theorem parts_quo_any (B S V : Nat) (s : ByteArray) (i0 : Nat) (Ls : List Addr) (w : World) (h : Rdr w B S s i0) (hE : SenB w Ls B) (hs : s.size ≤ 8192) (hi : i0 ≤ s.size) (hV : w.cell? ⟨V, 0, none⟩ = some (.pointer (some ⟨B, 0, none⟩))) (hVB : V ≠ B) :
    Calls Tryd.prog 50 #[.pointer (some ⟨B, 0, none⟩), .func (.func 70) #[] #[.pointer (some ⟨V, 0, none⟩)]] w (PsRet (partsA s.data.toList quoB i0 []) Ls B S s w) := by
  obtain ⟨i1, hinf, hz0, hz1, hz2⟩ := info_parts infoPart
  have HEND := Lib.hid (fun (W : World) (i : Nat) (hb : But B w W) (hr : Rdr W B S s i) => quo1_any V B S s i W (hb.cell hV hVB) hr)
  have HPART := Lib.hid (fun (W : World) (i : Nat) (hb : But B w W) (hr : Rdr W B S s i) (hi : i < s.size) => part_any B S s i Ls W hr (hE.but hb).sen (by omega) hi)
  have HR0 := Lib.hid h
  obtain ⟨L, hL⟩ : ∃ L, L = s.data.toList := ⟨_, rfl⟩
  have HN := Lib.hid (show L.length = s.size by rw [hL]; rfl)
  rw [← hL] at HEND HPART ⊢
  obtain ⟨R, hR⟩ : ∃ R, R = partsA L quoB i0 [] := ⟨_, rfl⟩
  have HR := Lib.hid hR
  rw [← hR]
  have HBW := Lib.hid (show B < w.heap.size from h.1.lt)
  clear hR hL h hE
  go_enter Tryd.func50, Tryd.ntmps50
  go_wp2_with fail
  go_loopw [6] (fun v wr => ∃ (i : Nat) (acc : List CPart), i ≤ s.size ∧ smallPs i acc ∧ OwnP 48 wr w.heap.size v acc ∧ Rdr wr B S s i ∧ But B w wr ∧ Hid (R = partsA L quoB i acc)) (fun _ wr => s.size - atW wr B)
  case atStart => exact ⟨i0, [], hi, ⟨Nat.zero_le _, fun p hp => by cases hp⟩, OwnP.nil _ _, HR0.out, But.refl _ _, HR⟩
  case round =>
    obtain ⟨i, acc, hi, hsm, hown, hrd, hbt, H⟩ := hrel
    have HAT := Lib.hid hrd.at_
    have HRD := Lib.hid hrd
    have HOWN := Lib.hid hown
    have HBT := Lib.hid hbt
    have HSM := Lib.hid hsm
    clear hrd hown hbt hsm hi HR0
    go_wp2_with fail
    refine (HEND.out _ i HBT.out HRD.out).mono ?_
    cases hst : stopA L quoB i with
    | true =>
      rintro e w2 ⟨rfl, hb2⟩
      have HR2 := Lib.hid (show R = .ok acc i (L.drop i) by rw [H.out]; exact partsA_stopped acc hst)
      clear hst
      go_wp2_with fail
      go_ret2
      rw [HR2.out]
      exact ⟨_, rfl, HOWN.out.below hb2, HRD.out.below hb2, HBT.out.trans (But.of hb2)⟩
    | false =>
      obtain ⟨hlt, hel⟩ := stopA_no hst
      have hlt2 : i < s.size := by have := HN.out; omega
      rintro e w2 ⟨rfl, hb2⟩
      replace HRD := Lib.hid (HRD.out.below hb2)
      replace HOWN := Lib.hid (HOWN.out.below hb2)
      replace HBT := Lib.hid (HBT.out.trans (But.of hb2))
      clear hst hb2 HEND
      go_wp2_with fail
      refine (HPART.out _ i HBT.out HRD.out hlt2).mono ?_
      cases hp : partA L i with
      | err k a =>
        rintro e w3 ⟨v, rfl, hE3, hb3⟩
        have HR2 := Lib.hid (show R = .err k a by rw [H.out]; exact partsA_err acc hlt hel hp)
        have HE3 := Lib.hid hE3
        obtain ⟨j, aa, g, _, _, hv, _, _⟩ := hE3
        replace HRD := Lib.hid (HRD.out.below hb3)
        replace HBT := Lib.hid (HBT.out.trans (But.of hb3))
        subst hv
        clear hp hb3 HPART
        go_wp2_with fail
        go_ret2
        rw [HR2.out]
        have hbl : Below w3.heap.size w3 (w3.alloc (.cells #[.int .i64 0, .int .i64 0, .int .i64 0, .string { data := #[] }] 48)) := (Below.refl _ _).alloc (Nat.le_refl _) _
        exact ⟨_, i, rfl, HE3.out.below hbl, HRD.out.below hbl, HBT.out.trans (But.of hbl)⟩
      | ok p n =>
        rintro e w3 ⟨rfl, hb3⟩
        obtain ⟨hn1, hn2, hp1, hp2, hp3, hp4, hp5⟩ := partA_ok hlt hp
        have hlt9 := hlt2
        have HR2 := Lib.hid (show R = partsA L quoB (i + n) (mergeP acc p) by rw [H.out]; exact partsA_on acc hlt hel hp)
        have HSM2 := Lib.hid (merge_small (m := 0) (i := 0) (k := n) HSM.out (p := p) ⟨by omega, hp2, hp3, hp4⟩ hn1)
        have hin : i + n ≤ s.size := by have := HN.out; omega
        have hpl : p.s.length ≤ 8192 := by have := HN.out; omega
        have hk0 := Blk.new w3 48 #[.int .i64 p.kind, .int .i64 p.pos, .int .i64 p.n, .string ⟨p.s.toArray⟩]
        have hbl : Below w3.heap.size w3 (w3.alloc (.cells #[.int .i64 p.kind, .int .i64 p.pos, .int .i64 p.n, .string ⟨p.s.toArray⟩] 48)) := (Below.refl _ _).alloc (Nat.le_refl _) _
        replace HRD := Lib.hid ((HRD.out.below hb3).below hbl)
        replace HBT := Lib.hid ((HBT.out.trans (But.of hb3)).trans (But.of hbl))
        replace HOWN := Lib.hid ((HOWN.out.below hb3).below hbl)
        have HKB := Lib.hid hk0
        clear hp hb3 HPART hbl hk0 hp2 hp3 hp4 hp5 hp1 hn2 hel H
        go_upto_region 6 with (fail)
        generalize w3.alloc (.cells #[.int .i64 p.kind, .int .i64 p.pos, .int .i64 p.n, .string ⟨p.s.toArray⟩] 48) = wk at *
        obtain ⟨K, hK⟩ : ∃ K, K = w3.heap.size := ⟨_, rfl⟩
        rw [← hK] at HKB ⊢
        have k0 := HKB.out.cell 0
        have k1 := HKB.out.cell 1
        have k2 := HKB.out.cell 2
        have k3 := HKB.out.cell 3
        simp only [List.getElem?_toArray, List.getElem?_cons_zero, List.getElem?_cons_succ] at k0 k1 k2 k3
        have hbase := HBT.out.size
        obtain ⟨m, hm⟩ : ∃ m, m = acc.length := ⟨_, rfl⟩
        have hown := HOWN.out
        unfold OwnP at hown
        rw [← hm] at hown
        obtain ⟨A0, c0, hv0, -, -, hA0, -⟩ := own_form hown
        subst hv0
        have hm2 : m ≤ 8192 := by have := HSM.out.1; omega
        have r1 := HRD.out.c1
        have fB := HRD.out.1.frozen 1
        have HM := Lib.hid hm
        clear hK w3 hm
        by_cases hmg : p.kind = 1 ∧ ∃ pre q, acc = pre ++ [q] ∧ q.kind = 1
        · obtain ⟨hk1, pre, q, rfl, hq1⟩ := hmg
          have hmp : m = pre.length + 1 := by rw [HM.out]; simp
          obtain ⟨A1, c1, hAe, hrd, -⟩ := OwnP.rd (show OwnP 48 wk w.heap.size (.slice A0 m c0) (pre ++ [q]) from HOWN.out)
          injection hAe with hA1 hA2 hA3
          subst hA1
          clear hA2
          subst hA3
          obtain ⟨g, o, hAg, -⟩ := hrd.addr (by simp)
          subst hAg
          obtain ⟨-, -, ho0, -⟩ := hA0 _ rfl
          simp only at ho0
          subst ho0
          have hat := RdL.cparts hrd (k := pre.length) (by simp)
          rw [List.getElem_concat_length rfl] at hat
          obtain ⟨d0, d1, d2, d3⟩ := hat
          have hql : q.s.length ≤ 8192 := by have := (HSM.out.2 q (by simp)).2.1; omega
          have HMG := Lib.hid (merge_text2 pre q p hk1 hq1)
          have hst := fun (W : World) (hW : W.ownsRow w.heap.size 48 4 (.slice (some ⟨g, 0, none⟩) m c0) m ((pre ++ [q]).flatMap cpc)) => hW.stored (pre.length * 4 + 3) (.string ⟨(q.s ++ p.s).toArray⟩)
          have hset := set_last pre q (q.s ++ p.s) hq1
          have HST := Lib.hid hst
          have HSET := Lib.hid hset
          have HOW2 := Lib.hid hown
          have HAPP := Lib.hid (ba_app q.s p.s)
          have fg : ∀ j, wk.frozen? ⟨g, j, none⟩ = false := by
            rcases hown.2 with ⟨he, _⟩ | ⟨g', cap, cur, he, _, hg, _⟩
            · cases he
            · injection he with he1
              injection he1 with he1
              injection he1 with he2
              subst he2
              exact fun j => Blk.frozen (show Blk wk g _ _ from hg) j
          have hgB : g ≠ B := by
            rcases hown.2 with ⟨he, _⟩ | ⟨g', cap, cur, he, _, hg, _⟩
            · cases he
            · injection he with he1
              injection he1 with he1
              injection he1 with he2
              subst he2
              exact Blk.apart (show Blk wk g _ _ from hg) HRD.out.1 (by decide)
          have hgS : g ≠ S := by
            rcases hown.2 with ⟨he, _⟩ | ⟨g', cap, cur, he, _, hg, _⟩
            · cases he
            · injection he with he1
              injection he1 with he1
              injection he1 with he2
              subst he2
              exact Blk.apart (show Blk wk g _ _ from hg) HRD.out.2 (by decide)
          have hgw : w.heap.size ≤ g := (hA0 _ rfl).1
          have e1 : ((p.kind : Int) == 1) = true := by rw [hk1]; rfl
          have e2 : ((q.kind : Int) == 1) = true := by rw [hq1]; rfl
          clear hk1 hq1
          subst hmp
          have f3 := fg (0 + pre.length * 4 + 3)
          obtain ⟨n0, hn0⟩ : ∃ n0, n0 = pre.length := ⟨_, rfl⟩
          have HN0 := Lib.hid hn0
          rw [← hn0] at d0 d1 d2 d3 f3 hm2 HST HSET HOW2 ⊢
          simp only [Nat.zero_add] at d0 d1 d2 d3 f3
          clear hst hset hown hrd HKB hA0 fg hn0 HOWN
          go_upto_region 8 with (fail)
          apply wp_region_relA 10 [eqT _, eqT _, eqT _, eqT _, eqT _, eqT _, eqT _, eqT (.string ⟨(q.s ++ p.s).toArray⟩), eqT _, eqT _] (by kernel_rfl) (by kernel_rfl) (by kernel_rfl) rfl
          focus
            refine ⟨?_, ?_⟩
            focus
              unfold opGoal
              rw [if_pos (by kernel_rfl)]
              intro x hb hd K hk
              clear hd
              go_wp2_with fail
              exact hk _ _ rfl trivial (Below.refl _ _)
            rintro _ rfl
            simp only [Act.put, List.setIfInBounds_toArray, List.set_cons_succ, List.set_cons_zero]
            refine ⟨?_, ?_⟩
            focus
              unfold opGoal
              rw [if_pos (by kernel_rfl)]
              intro x hb hd K hk
              clear hd
              go_wp2_with fail
              exact hk _ _ rfl trivial (Below.refl _ _)
            rintro _ rfl
            simp only [Act.put, List.setIfInBounds_toArray, List.set_cons_succ, List.set_cons_zero]
            refine ⟨?_, ?_⟩
            focus
              unfold opGoal
              rw [if_pos (by kernel_rfl)]
              intro x hb hd K hk
              clear hd
              go_wp2_with fail
              exact hk _ _ rfl trivial (Below.refl _ _)
            rintro _ rfl
            simp only [Act.put, List.setIfInBounds_toArray, List.set_cons_succ, List.set_cons_zero]
            refine ⟨?_, ?_⟩
            focus
              unfold opGoal
              rw [if_pos (by kernel_rfl)]
              intro x hb hd K hk
              clear hd
              go_wp2_with fail
              exact hk _ _ rfl trivial (Below.refl _ _)
            rintro _ rfl
            simp only [Act.put, List.setIfInBounds_toArray, List.set_cons_succ, List.set_cons_zero]
            refine ⟨?_, ?_⟩
            focus
              unfold opGoal
              rw [if_pos (by kernel_rfl)]
              intro x hb hd K hk
              clear hd
              have l0 := cell_keep hb d3
              go_wp2_with fail
              exact hk _ _ rfl trivial (Below.refl _ _)
            rintro _ rfl
            simp only [Act.put, List.setIfInBounds_toArray, List.set_cons_succ, List.set_cons_zero]
            refine ⟨?_, ?_⟩
            focus
              unfold opGoal
              rw [if_pos (by kernel_rfl)]
              intro x hb hd K hk
              clear hd
              go_wp2_with fail
              exact hk _ _ rfl trivial (Below.refl _ _)
            rintro _ rfl
            simp only [Act.put, List.setIfInBounds_toArray, List.set_cons_succ, List.set_cons_zero]
            refine ⟨?_, ?_⟩
            focus
              unfold opGoal
              rw [if_pos (by kernel_rfl)]
              intro x hb hd K hk
              clear hd
              have l0 := cell_keep hb k3
              go_wp2_with fail
              exact hk _ _ rfl trivial (Below.refl _ _)
            rintro _ rfl
            simp only [Act.put, List.setIfInBounds_toArray, List.set_cons_succ, List.set_cons_zero]
            refine ⟨?_, ?_⟩
            focus
              unfold opGoal
              rw [if_pos (by kernel_rfl)]
              intro x hb hd K hk
              clear hd
              go_wp2_with fail
              exact hk _ _ (congrArg Value.string HAPP.out) trivial (Below.refl _ _)
            rintro _ rfl
            simp only [Act.put, List.setIfInBounds_toArray, List.set_cons_succ, List.set_cons_zero]
            refine ⟨?_, ?_⟩
            focus
              unfold opGoal
              rw [if_pos (by kernel_rfl)]
              intro x hb hd K hk
              clear hd
              go_wp2_with fail
              exact hk _ _ rfl trivial (Below.refl _ _)
            rintro _ rfl
            simp only [Act.put, List.setIfInBounds_toArray, List.set_cons_succ, List.set_cons_zero]
            refine ⟨?_, ?_⟩
            focus
              unfold opGoal
              rw [if_pos (by kernel_rfl)]
              intro x hb hd K hk
              clear hd
              go_wp2_with fail
              exact hk _ _ rfl trivial (Below.refl _ _)
            rintro _ rfl
            simp only [Act.put, List.setIfInBounds_toArray, List.set_cons_succ, List.set_cons_zero]
            intro x hbx hf
            simp only [List.drop_succ_cons, List.drop_zero]
            clear hf
            have d3x := cell_keep hbx d3
            have hOx := own_below HOW2.out hbx
            have HSX := Lib.hid (HST.out x hOx)
            have hRx := HRD.out.below hbx
            have hBx := HBT.out.trans (But.of hbx)
            have f3x : x.frozen? ⟨g, n0 * 4 + 3, none⟩ = false := by
              rw [hbx.frozen (by exact World.block_lt_of_cell? _ _ d3)]
              exact f3
            have hO1 : OwnP 48 (x.setCell ⟨g, n0 * 4 + 3, none⟩ (.string ⟨(q.s ++ p.s).toArray⟩)) w.heap.size (.slice (some ⟨g, 0, none⟩) (n0 + 1) c0) (mergeP (pre ++ [q]) p) := by
              have h1 := HSX.out.1
              rw [HSET.out] at h1
              rw [HMG.out]
              unfold OwnP
              rw [show (pre ++ [(⟨1, q.pos, q.n, q.s ++ p.s⟩ : CPart)]).length = n0 + 1 by rw [HN0.out]; simp]
              exact h1
            have hR1 : Rdr (x.setCell ⟨g, n0 * 4 + 3, none⟩ (.string ⟨(q.s ++ p.s).toArray⟩)) B S s i := ⟨hRx.1.other (fun e => hgB e.symm) _, hRx.2.other (fun e => hgS e.symm) _⟩
            have hB1 : But B w (x.setCell ⟨g, n0 * 4 + 3, none⟩ (.string ⟨(q.s ++ p.s).toArray⟩)) := hBx.of2 ((Below.refl _ _).setCell hgw _)
            have HO1 := Lib.hid hO1
            have HR1 := Lib.hid hR1
            have HB1 := Lib.hid hB1
            have r1x := hR1.c1
            have f1x := hR1.1.frozen 1
            clear hO1 hR1 hB1 hRx hBx HSX hOx r1 fB d0 d1 d2 d3 k0 k1 k2 k3 e1 e2
            go_wp2_with fail
            have hRf := HR1.out.set (i + n)
            have hOf := HO1.out.but (But.set (B := B) _ 1 (.int .i64 ((i + n : Nat) : Int))) HR1.out.1 (by decide)
            have hBf := HB1.out.trans (But.set (B := B) _ 1 (.int .i64 ((i + n : Nat) : Int)))
            rw [Int.natCast_add] at hRf hOf hBf
            go_roundw
            case rel => exact ⟨i + n, _, hin, HSM2.out, hOf, hRf, hBf, HR2⟩
            case measure => rw [HAT.out, hRf.at_]; omega
        · have HMG := Lib.hid (show mergeP acc p = acc ++ [p] by
            by_cases h0 : acc = []
            · rw [h0]
              rfl
            · obtain ⟨pre, q, rfl⟩ := last_split h0
              exact merge_more pre q p fun h => hmg ⟨h.1, pre, q, rfl, h.2⟩)
          have HOW2 := Lib.hid hown
          have HPUT := Lib.hid (show ∀ (w4 : World) (A2 : Option Addr) (c2 : Nat), w4.ownsRow w.heap.size 48 4 (.slice A2 (m + 1) c2) (m + 1) (acc.flatMap cpc ++ [.int .i64 p.kind, .int .i64 p.pos, .int .i64 p.n, .string ⟨p.s.toArray⟩]) → OwnP 48 w4 w.heap.size (.slice A2 (m + 1) c2) (mergeP acc p) from fun w4 A2 c2 h4 => by
            rw [HMG.out]
            unfold OwnP
            rw [List.length_append, ← HM.out, List.flatMap_append]
            exact h4)
          by_cases hk1 : p.kind = 1
          · by_cases h0 : acc = []
            · have hm0 : m = 0 := by rw [HM.out, h0]; rfl
              have e1 : ((p.kind : Int) == 1) = true := by rw [hk1]; rfl
              clear hmg hk1 h0 hA0
              subst hm0
              go_wp2_with (at_builtin; refine wpList_push rfl _ _ _ rfl Tryd.underlying34 hinf hz0 hz1 hz2 rfl (by decide) HOW2.out rfl rfl rfl (by simp [Value.oneCell']) (by omega) (by decide) hbase ?_; intro A2 c2 w4 ho4 hb4 hoo4; have HO4 := Lib.hid (HPUT.out w4 A2 c2 ho4); have hR4 : Rdr w4 B S s i := ⟨HRD.out.1.others hoo4 (by decide), HRD.out.2.others hoo4 (by decide)⟩; have HR4 := Lib.hid hR4; have HB4 := Lib.hid (HBT.out.of2 hb4); have r14 := hR4.c1; have f14 := hR4.1.frozen 1; clear hR4 ho4 hb4 hoo4)
              have hRf := HR4.out.set (i + n)
              have hOf := HO4.out.but (But.set (B := B) _ 1 (.int .i64 ((i + n : Nat) : Int))) HR4.out.1 (by decide)
              have hBf := HB4.out.trans (But.set (B := B) _ 1 (.int .i64 ((i + n : Nat) : Int)))
              rw [Int.natCast_add] at hRf hOf hBf
              go_roundw
              case rel => exact ⟨i + n, _, hin, HSM2.out, hOf, hRf, hBf, HR2⟩
              case measure => rw [HAT.out, hRf.at_]; omega
            · obtain ⟨pre, q, rfl⟩ := last_split h0
              have hq1 : q.kind ≠ 1 := fun h => hmg ⟨hk1, pre, q, rfl, h⟩
              have e1 : ((p.kind : Int) == 1) = true := by rw [hk1]; rfl
              have e2 : ((q.kind : Int) == 1) = false := by rw [beq_eq_false_iff_ne]; omega
              have hmp : m = pre.length + 1 := by rw [HM.out]; simp
              obtain ⟨A1, c1, hAe, hrd, -⟩ := OwnP.rd (show OwnP 48 wk w.heap.size (.slice A0 m c0) (pre ++ [q]) from HOWN.out)
              injection hAe with hA1 hA2 hA3
              subst hA1
              clear hA2
              subst hA3
              obtain ⟨g, o, hAg, -⟩ := hrd.addr (by simp)
              subst hAg
              obtain ⟨-, -, ho0, -⟩ := hA0 _ rfl
              simp only at ho0
              subst ho0
              have hat := RdL.cparts hrd (k := pre.length) (by simp)
              rw [List.getElem_concat_length rfl] at hat
              obtain ⟨d0, d1, d2, d3⟩ := hat
              subst hmp
              obtain ⟨n0, hn0⟩ : ∃ n0, n0 = pre.length := ⟨_, rfl⟩
              have HN0 := Lib.hid hn0
              rw [← hn0] at d0 hm2 hown HPUT HM HOW2 ⊢
              simp only [Nat.zero_add] at d0
              clear hmg hk1 h0 hA0 hn0 HOWN hrd d1 d2 d3 hq1
              go_wp2_with (at_builtin; refine wpList_push rfl _ _ _ rfl Tryd.underlying34 hinf hz0 hz1 hz2 rfl (by decide) HOW2.out rfl rfl rfl (by simp [Value.oneCell']) (by omega) (by decide) hbase ?_; intro A2 c2 w4 ho4 hb4 hoo4; have HO4 := Lib.hid (HPUT.out w4 A2 c2 ho4); have hR4 : Rdr w4 B S s i := ⟨HRD.out.1.others hoo4 (by decide), HRD.out.2.others hoo4 (by decide)⟩; have HR4 := Lib.hid hR4; have HB4 := Lib.hid (HBT.out.of2 hb4); have r14 := hR4.c1; have f14 := hR4.1.frozen 1; clear hR4 ho4 hb4 hoo4)
              have hRf := HR4.out.set (i + n)
              have hOf := HO4.out.but (But.set (B := B) _ 1 (.int .i64 ((i + n : Nat) : Int))) HR4.out.1 (by decide)
              have hBf := HB4.out.trans (But.set (B := B) _ 1 (.int .i64 ((i + n : Nat) : Int)))
              rw [Int.natCast_add] at hRf hOf hBf
              go_roundw
              case rel => exact ⟨i + n, _, hin, HSM2.out, hOf, hRf, hBf, HR2⟩
              case measure => rw [HAT.out, hRf.at_]; omega
          · have e1 : ((p.kind : Int) == 1) = false := by rw [beq_eq_false_iff_ne]; omega
            clear hmg hk1 hA0
            go_wp2_with (at_builtin; refine wpList_push rfl _ _ _ rfl Tryd.underlying34 hinf hz0 hz1 hz2 rfl (by decide) HOW2.out rfl rfl rfl (by simp [Value.oneCell']) (by omega) (by decide) hbase ?_; intro A2 c2 w4 ho4 hb4 hoo4; have HO4 := Lib.hid (HPUT.out w4 A2 c2 ho4); have hR4 : Rdr w4 B S s i := ⟨HRD.out.1.others hoo4 (by decide), HRD.out.2.others hoo4 (by decide)⟩; have HR4 := Lib.hid hR4; have HB4 := Lib.hid (HBT.out.of2 hb4); have r14 := hR4.c1; have f14 := hR4.1.frozen 1; clear hR4 ho4 hb4 hoo4)
            have hRf := HR4.out.set (i + n)
            have hOf := HO4.out.but (But.set (B := B) _ 1 (.int .i64 ((i + n : Nat) : Int))) HR4.out.1 (by decide)
            have hBf := HB4.out.trans (But.set (B := B) _ 1 (.int .i64 ((i + n : Nat) : Int)))
            rw [Int.natCast_add] at hRf hOf hBf
            go_roundw
            case rel => exact ⟨i + n, _, hin, HSM2.out, hOf, hRf, hBf, HR2⟩
            case measure => rw [HAT.out, hRf.at_]; omega
end Go.Proofs.YtlhpflilpdceiaaDoor
