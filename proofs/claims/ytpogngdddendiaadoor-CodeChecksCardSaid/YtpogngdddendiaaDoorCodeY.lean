/- The walk over the law's fault. A bound on the length. -/
import Derived.Test.YtpogngdddendiaaDoorCodeX
set_option linter.unusedVariables false
set_option linter.unusedSimpArgs false
namespace Go.Proofs.YtpogngdddendiaaDoor
open Go.RowKit

theorem l22_zero (w : World) : Blk (w.alloc (.cells #[.int .i64 0, .slice none 0 0] 57)) w.heap.size 57 #[.int .i64 0, .slice none 0 0] := Blk.new w _ _
set_option maxRecDepth 100000 in
set_option maxHeartbeats 4000000 in
theorem fault22_any (X : List Ins) (A : Option Addr) (c : Nat) (st : Int) (w : World) (hn : X.length ≤ 200) (hs : ∀ x ∈ X, x.s.length ≤ 140737488355328) (hrd : RdL w 4 insc A X) :
    Calls Tryd.prog 25 #[.slice A X.length c, .int .i64 st] w (FltRet (faultC X st).1 (faultC X st).2 w) := by
  obtain ⟨m, hm⟩ : ∃ m, X.length = m := ⟨_, rfl⟩
  have HM := Lib.hid hm
  have HS := Lib.hid hs
  obtain ⟨W0, hW0⟩ : ∃ W0, W0 = w.alloc (.cells #[.int .i64 0, .slice none 0 0] 57) := ⟨_, rfl⟩
  have hB0 : Blk W0 w.heap.size 57 #[.int .i64 0, .slice none 0 0] := by rw [hW0]; exact Blk.new w _ _
  have hb0 : Below w.heap.size w W0 := by rw [hW0]; exact (Below.refl _ _).alloc (Nat.le_refl _) _
  have HB0 := Lib.hid hB0
  have HSZ0 := Lib.hid (show W0.heap.size = w.heap.size + 1 by rw [hW0]; exact Array.size_push _)
  have HW := Lib.hid hb0
  have HRD := Lib.hid (hrd.below hb0)
  obtain ⟨F, hF⟩ : ∃ F, faultC X st = F := ⟨_, rfl⟩
  have HF := Lib.hid (show (if m = 0 ∨ st < 0 ∨ 9000 < st then ((111 : Int), ([] : List Int)) else ofBad (firstBad m 0 X)) = F by rw [← hF, ← hm]; rfl)
  rw [hm] at hn ⊢
  rw [hF]
  clear hm hs hB0 hb0 hrd hF
  go_enter Tryd.func25, Tryd.ntmps25
  go_upto_region 1 with (fail)
  rw [← hW0]
  clear hW0
  by_cases hbad : m = 0 ∨ st < 0 ∨ 9000 < st
  · have HFX := Lib.hid (show F = (111, []) by rw [← HF.out, if_pos hbad])
    have hBf := HB0.out
    have HBX := Lib.hid HW.out
    have HBC := Lib.hid (fun W => bare_any 111 W)
    rcases Nat.eq_zero_or_pos m with h0 | h0
    · subst h0
      clear HF hbad
      go_wp2_with fail
      refine (HBC.out _).mono ?_
      rintro e w5 ⟨rfl, hb5⟩
      have HBX := Lib.hid (HBX.out.trans (hb5.mono HBX.out.size))
      have hBf := hBf.below hb5
      unfold bareV
      clear hb5 HBC
      obtain ⟨u1, hu1⟩ : ∃ u1, u1 = Value.int .i64 111 := ⟨_, rfl⟩
      obtain ⟨u2, hu2⟩ : ∃ u2, u2 = Value.slice none 0 0 := ⟨_, rfl⟩
      have z0 := hBf.cell 0
      have z1 := hBf.cell 1
      have q0 := hBf.frozen 0
      have q1 := hBf.frozen 1
      have hB2 := (hBf.set 0 (u1)).set 1 (u2)
      have e0 := hB2.cell 0
      have e1 := hB2.cell 1
      simp only [List.getElem?_toArray, List.getElem?_cons_zero, List.getElem?_cons_succ, List.setIfInBounds_toArray, List.set_cons_succ, List.set_cons_zero] at e0 e1 z0 z1
      have E0 := Lib.hid e0
      have E1 := Lib.hid e1
      have hbF : Below w.heap.size w ((w5.setCell ⟨w.heap.size, 0, none⟩ (u1)).setCell ⟨w.heap.size, 1, none⟩ (u2)) := (HBX.out.setCell (Nat.le_refl _) _).setCell (Nat.le_refl _) _
      have EF := Lib.hid hbF
      clear hbF e0 e1 hB2 hBf
      subst hu1
      subst hu2
      go_wp2_with fail
      refine bodyPost_ret (v := .agg #[.int .i64 111, .slice none 0 0]) ?_ rfl ?_
      · have e0 := E0.out
        have e1 := E1.out
        generalize ((w5.setCell ⟨w.heap.size, 0, none⟩ (.int .i64 111)).setCell ⟨w.heap.size, 1, none⟩ (.slice none 0 0)) = WF at *
        simp [results, Tryd.results25, go_sem, e0, e1]
      · rw [HFX.out]
        exact ⟨_, rfl, ⟨none, 0, rfl, RdL.nil _ _ _ _, fun _ => rfl⟩, EF.out⟩
    · have g1 : ((m : Int) == 0) = false := by simp; omega
      have g4 : ¬ (9000 : Int) < (m : Int) := by omega
      by_cases g2 : st < 0
      · clear HF hbad
        go_wp2_with fail
        refine (HBC.out _).mono ?_
        rintro e w5 ⟨rfl, hb5⟩
        have HBX := Lib.hid (HBX.out.trans (hb5.mono HBX.out.size))
        have hBf := hBf.below hb5
        unfold bareV
        clear hb5 HBC
        obtain ⟨u1, hu1⟩ : ∃ u1, u1 = Value.int .i64 111 := ⟨_, rfl⟩
        obtain ⟨u2, hu2⟩ : ∃ u2, u2 = Value.slice none 0 0 := ⟨_, rfl⟩
        have z0 := hBf.cell 0
        have z1 := hBf.cell 1
        have q0 := hBf.frozen 0
        have q1 := hBf.frozen 1
        have hB2 := (hBf.set 0 (u1)).set 1 (u2)
        have e0 := hB2.cell 0
        have e1 := hB2.cell 1
        simp only [List.getElem?_toArray, List.getElem?_cons_zero, List.getElem?_cons_succ, List.setIfInBounds_toArray, List.set_cons_succ, List.set_cons_zero] at e0 e1 z0 z1
        have E0 := Lib.hid e0
        have E1 := Lib.hid e1
        have hbF : Below w.heap.size w ((w5.setCell ⟨w.heap.size, 0, none⟩ (u1)).setCell ⟨w.heap.size, 1, none⟩ (u2)) := (HBX.out.setCell (Nat.le_refl _) _).setCell (Nat.le_refl _) _
        have EF := Lib.hid hbF
        clear hbF e0 e1 hB2 hBf
        subst hu1
        subst hu2
        go_wp2_with fail
        refine bodyPost_ret (v := .agg #[.int .i64 111, .slice none 0 0]) ?_ rfl ?_
        · have e0 := E0.out
          have e1 := E1.out
          generalize ((w5.setCell ⟨w.heap.size, 0, none⟩ (.int .i64 111)).setCell ⟨w.heap.size, 1, none⟩ (.slice none 0 0)) = WF at *
          simp [results, Tryd.results25, go_sem, e0, e1]
        · rw [HFX.out]
          exact ⟨_, rfl, ⟨none, 0, rfl, RdL.nil _ _ _ _, fun _ => rfl⟩, EF.out⟩
      · have g3 : 9000 < st := by rcases hbad with h | h | h <;> omega
        clear HF hbad
        go_wp2_with fail
        refine (HBC.out _).mono ?_
        rintro e w5 ⟨rfl, hb5⟩
        have HBX := Lib.hid (HBX.out.trans (hb5.mono HBX.out.size))
        have hBf := hBf.below hb5
        unfold bareV
        clear hb5 HBC
        obtain ⟨u1, hu1⟩ : ∃ u1, u1 = Value.int .i64 111 := ⟨_, rfl⟩
        obtain ⟨u2, hu2⟩ : ∃ u2, u2 = Value.slice none 0 0 := ⟨_, rfl⟩
        have z0 := hBf.cell 0
        have z1 := hBf.cell 1
        have q0 := hBf.frozen 0
        have q1 := hBf.frozen 1
        have hB2 := (hBf.set 0 (u1)).set 1 (u2)
        have e0 := hB2.cell 0
        have e1 := hB2.cell 1
        simp only [List.getElem?_toArray, List.getElem?_cons_zero, List.getElem?_cons_succ, List.setIfInBounds_toArray, List.set_cons_succ, List.set_cons_zero] at e0 e1 z0 z1
        have E0 := Lib.hid e0
        have E1 := Lib.hid e1
        have hbF : Below w.heap.size w ((w5.setCell ⟨w.heap.size, 0, none⟩ (u1)).setCell ⟨w.heap.size, 1, none⟩ (u2)) := (HBX.out.setCell (Nat.le_refl _) _).setCell (Nat.le_refl _) _
        have EF := Lib.hid hbF
        clear hbF e0 e1 hB2 hBf
        subst hu1
        subst hu2
        go_wp2_with fail
        refine bodyPost_ret (v := .agg #[.int .i64 111, .slice none 0 0]) ?_ rfl ?_
        · have e0 := E0.out
          have e1 := E1.out
          generalize ((w5.setCell ⟨w.heap.size, 0, none⟩ (.int .i64 111)).setCell ⟨w.heap.size, 1, none⟩ (.slice none 0 0)) = WF at *
          simp [results, Tryd.results25, go_sem, e0, e1]
        · rw [HFX.out]
          exact ⟨_, rfl, ⟨none, 0, rfl, RdL.nil _ _ _ _, fun _ => rfl⟩, EF.out⟩
  · have HF2 := Lib.hid (show ofBad (firstBad m 0 X) = F by rw [← HF.out, if_neg hbad])
    have g1 : ((m : Int) == 0) = false := by simp; omega
    have g2 : ¬ st < 0 := fun h => hbad (.inr (.inl h))
    have g3 : ¬ 9000 < st := fun h => hbad (.inr (.inr h))
    have g4 : ¬ (9000 : Int) < (m : Int) := by omega
    clear HF hbad
    go_wp2_with fail
    go_loopw [5] (fun i wr => ∃ k : Nat, k ≤ m ∧ i = .int .i64 k ∧ Hid (Below W0.heap.size W0 wr) ∧ Hid (firstBad m k (X.drop k) = firstBad m 0 X)) (fun i _ => m - (intOf i).toNat)
    case atStart => exact ⟨0, Nat.zero_le _, rfl, Lib.hid (Below.refl _ _), Lib.hid rfl⟩
    case round =>
      obtain ⟨k, hk, rfl, HR, HFB⟩ := hrel
      by_cases hlt : k < m
      · have hkL : k < X.length := by rw [HM.out]; exact hlt
        obtain ⟨b, o, rfl, _, hcell⟩ := (HRD.out.below HR.out) k hkL
        obtain ⟨x, hx⟩ : ∃ x, x = X[k] := ⟨_, rfl⟩
        have hdr := List.drop_eq_getElem_cons hkL
        have hxl := HS.out X[k] (List.getElem_mem _)
        rw [← hx] at hcell hdr hxl
        have HFS := Lib.hid (show firstBad m k (X.drop k) = if badI m k x = true then some k else firstBad m (k + 1) (X.drop (k + 1)) by rw [hdr, firstBad])
        have c0 := hcell 0 _ rfl
        have c1 := hcell 1 _ rfl
        have c2 := hcell 2 _ rfl
        have c3 := hcell 3 _ rfl
        simp only [Nat.add_zero] at c0
        clear hcell hx hkL hdr
        go_upto_region 7 with (fail)
        obtain ⟨W3, hW3⟩ : ∃ W3, W3 = wr.alloc (.cells #[.int .i64 x.op, .int .i64 x.a, .int .i64 x.b, .string ⟨x.s.toArray⟩] 64) := ⟨_, rfl⟩
        have hb3 : Below wr.heap.size wr W3 := by rw [hW3]; exact (Below.refl _ _).alloc (Nat.le_refl _) _
        have hB3 : Blk W3 wr.heap.size 64 #[.int .i64 x.op, .int .i64 x.a, .int .i64 x.b, .string ⟨x.s.toArray⟩] := by rw [hW3]; exact Blk.new wr _ _
        have HR3 := Lib.hid (HR.out.trans (hb3.mono HR.out.size))
        have p0 := hB3.cell 0
        have p1 := hB3.cell 1
        have p2 := hB3.cell 2
        have p3 := hB3.cell 3
        simp only [List.getElem?_toArray, List.getElem?_cons_zero, List.getElem?_cons_succ] at p0 p1 p2 p3
        obtain ⟨sb, hsb⟩ : ∃ sb, (⟨x.s.toArray⟩ : ByteArray) = sb := ⟨_, rfl⟩
        have HSZ := Lib.hid (show x.s.length = sb.size by rw [← hsb]; simp [ByteArray.size])
        rw [hsb] at p3
        rw [HSZ.out] at hxl
        have HPL := Lib.hid (lplaces_any x.op W3)
        have HBAD := Lib.hid (show badI m k x = (!okI (m - 1) x || (k + 1 == m && !endsB x.op)) from rfl)
        rw [← hW3]
        clear hb3 hB3 hW3 c0 c1 c2 c3 hsb
        generalize wr.heap.size = gi at *
        go_wp2_with fail
        refine HPL.out.mono ?_
        rintro e w4 ⟨rfl, rfl⟩
        obtain ⟨op, hop⟩ : ∃ op, x.op = op := ⟨_, rfl⟩
        obtain ⟨xa, hxa⟩ : ∃ xa, x.a = xa := ⟨_, rfl⟩
        obtain ⟨xb, hxb⟩ : ∃ xb, x.b = xb := ⟨_, rfl⟩
        have HOK := Lib.hid (show (!okI (m - 1) x) = (decide (op < 1) || decide (41 < op) || (placeA op && (decide (xa < 0) || decide ((m : Int) ≤ xa))) || (placeB op && (decide (xb < 0) || decide ((m : Int) ≤ xb))) || decide (2000 < (sb.size : Int)) || (decide (xa < 0) && countA op)) by
          rw [← okI_b2 m x (by omega), hop, hxa, hxb, HSZ.out])
        rw [hop] at p0 HBAD ⊢
        rw [hxa] at p1 ⊢
        rw [hxb] at p2 ⊢
        clear hop hxa hxb HPL HSZ
        obtain ⟨pa, hpa⟩ : ∃ pa, placeA op = pa := ⟨_, rfl⟩
        obtain ⟨pb, hpb⟩ : ∃ pb, placeB op = pb := ⟨_, rfl⟩
        obtain ⟨d1, hd1⟩ : ∃ d, decide (op < 1) = d := ⟨_, rfl⟩
        obtain ⟨d2, hd2⟩ : ∃ d, decide (41 < op) = d := ⟨_, rfl⟩
        obtain ⟨d3, hd3⟩ : ∃ d, decide (xa < 0) = d := ⟨_, rfl⟩
        obtain ⟨d4, hd4⟩ : ∃ d, decide ((m : Int) ≤ xa) = d := ⟨_, rfl⟩
        obtain ⟨d5, hd5⟩ : ∃ d, decide (xb < 0) = d := ⟨_, rfl⟩
        obtain ⟨d6, hd6⟩ : ∃ d, decide ((m : Int) ≤ xb) = d := ⟨_, rfl⟩
        obtain ⟨d7, hd7⟩ : ∃ d, decide (2000 < (sb.size : Int)) = d := ⟨_, rfl⟩
        obtain ⟨b1, hb1⟩ : ∃ b1, (d1 || d2 || (pa && (d3 || d4)) || (pb && (d5 || d6)) || d7) = b1 := ⟨_, rfl⟩
        have HB1 := Lib.hid hb1
        rw [hpa, hpb, hd1, hd2, hd3, hd4, hd5, hd6, hd7, hb1] at HOK
        rw [hpa, hpb]
        clear hb1
        go_upto_region 8 with (fail)
        go_cut [9] (fun v wx => v = .bool b1 ∧ w4 = wx)
        case first =>
          cases d1
          · cases d2
            · cases pa
              · cases pb
                · cases d7
                  · go_wp2_with fail
                    go_meet
                    exact ⟨by rw [← HB1.out]; rfl, rfl⟩
                  · go_wp2_with fail
                    go_meet
                    exact ⟨by rw [← HB1.out]; rfl, rfl⟩
                · cases d5
                  · cases d6
                    · cases d7
                      · go_wp2_with fail
                        go_meet
                        exact ⟨by rw [← HB1.out]; rfl, rfl⟩
                      · go_wp2_with fail
                        go_meet
                        exact ⟨by rw [← HB1.out]; rfl, rfl⟩
                    · go_wp2_with fail
                      go_meet
                      exact ⟨by rw [← HB1.out]; rfl, rfl⟩
                  · go_wp2_with fail
                    go_meet
                    exact ⟨by rw [← HB1.out]; rfl, rfl⟩
              · cases d3
                · cases d4
                  · cases pb
                    · cases d7
                      · go_wp2_with fail
                        go_meet
                        exact ⟨by rw [← HB1.out]; rfl, rfl⟩
                      · go_wp2_with fail
                        go_meet
                        exact ⟨by rw [← HB1.out]; rfl, rfl⟩
                    · cases d5
                      · cases d6
                        · cases d7
                          · go_wp2_with fail
                            go_meet
                            exact ⟨by rw [← HB1.out]; rfl, rfl⟩
                          · go_wp2_with fail
                            go_meet
                            exact ⟨by rw [← HB1.out]; rfl, rfl⟩
                        · go_wp2_with fail
                          go_meet
                          exact ⟨by rw [← HB1.out]; rfl, rfl⟩
                      · go_wp2_with fail
                        go_meet
                        exact ⟨by rw [← HB1.out]; rfl, rfl⟩
                  · go_wp2_with fail
                    go_meet
                    exact ⟨by rw [← HB1.out]; rfl, rfl⟩
                · go_wp2_with fail
                  go_meet
                  exact ⟨by rw [← HB1.out]; rfl, rfl⟩
            · go_wp2_with fail
              go_meet
              exact ⟨by rw [← HB1.out]; rfl, rfl⟩
          · go_wp2_with fail
            go_meet
            exact ⟨by rw [← HB1.out]; rfl, rfl⟩
        case rest =>
        obtain ⟨rfl, rfl⟩ := hcut
        obtain ⟨e3, he3⟩ : ∃ d, (op == 3) = d := ⟨_, rfl⟩
        obtain ⟨e4, he4⟩ : ∃ d, (op == 4) = d := ⟨_, rfl⟩
        obtain ⟨e15, he15⟩ : ∃ d, (op == 15) = d := ⟨_, rfl⟩
        obtain ⟨e38, he38⟩ : ∃ d, (op == 38) = d := ⟨_, rfl⟩
        obtain ⟨e27, he27⟩ : ∃ d, (op == 27) = d := ⟨_, rfl⟩
        obtain ⟨b2, hb2⟩ : ∃ b2, (b1 || (d3 && (e3 || e4 || e15 || e38 || e27))) = b2 := ⟨_, rfl⟩
        have HB2 := Lib.hid hb2
        have HOK2 := Lib.hid (show (!okI (m - 1) x) = b2 by rw [HOK.out, ← hb2, ← he3, ← he4, ← he15, ← he38, ← he27]; rfl)
        clear hb2 HOK HB1 hd1 hd2 hd4 hd5 hd6 hd7 hpa hpb
        go_upto_region 9 with (fail)
        go_cut [9] (fun v wx => v = .bool b2 ∧ w4 = wx)
        case first =>
          cases b1
          · cases d3
            · go_wp2_with fail
              go_meet
              exact ⟨by rw [← HB2.out]; rfl, rfl⟩
            · cases e3
              · cases e4
                · cases e15
                  · cases e38
                    · cases e27
                      · go_wp2_with fail
                        go_meet
                        exact ⟨by rw [← HB2.out]; rfl, rfl⟩
                      · go_wp2_with fail
                        go_meet
                        exact ⟨by rw [← HB2.out]; rfl, rfl⟩
                    · go_wp2_with fail
                      go_meet
                      exact ⟨by rw [← HB2.out]; rfl, rfl⟩
                  · go_wp2_with fail
                    go_meet
                    exact ⟨by rw [← HB2.out]; rfl, rfl⟩
                · go_wp2_with fail
                  go_meet
                  exact ⟨by rw [← HB2.out]; rfl, rfl⟩
              · go_wp2_with fail
                go_meet
                exact ⟨by rw [← HB2.out]; rfl, rfl⟩
          · go_wp2_with fail
            go_meet
            exact ⟨by rw [← HB2.out]; rfl, rfl⟩
        case rest =>
        obtain ⟨rfl, rfl⟩ := hcut
        clear he3 he4 he15 he38 he27 hd3 HB2
        obtain ⟨e41, he41⟩ : ∃ d, (op == 41) = d := ⟨_, rfl⟩
        obtain ⟨e40, he40⟩ : ∃ d, (op == 40) = d := ⟨_, rfl⟩
        obtain ⟨e18, he18⟩ : ∃ d, (op == 18) = d := ⟨_, rfl⟩
        have HEN := Lib.hid (show endsB op = (e41 || e40 || e18) by rw [← he41, ← he40, ← he18]; rfl)
        have n41 : (op != 41) = !e41 := by rw [bne, he41]
        have n40 : (op != 40) = !e40 := by rw [bne, he40]
        have n18 : (op != 18) = !e18 := by rw [bne, he18]
        obtain ⟨b3, hb3⟩ : ∃ b3, badI m k x = b3 := ⟨_, rfl⟩
        have HB3 := Lib.hid (show (b2 || (k + 1 == m && !(e41 || e40 || e18))) = b3 by rw [← hb3, HBAD.out, HOK2.out, HEN.out])
        rw [hb3] at HFS
        clear hb3 HBAD HOK2 HEN
        by_cases hkm : k + 1 = m
        · have hq : ((k : Int) == (m : Int) - 1) = true := by simp; omega
          have hq2 : (k + 1 == m) = true := by simp [hkm]
          rw [hq2] at HB3
          clear hkm hq2
          go_upto_region 11 with (fail)
          go_cut [9] (fun v wx => v = .bool b3 ∧ w4 = wx)
          case first =>
            cases b2
            · cases e41
              · cases e40
                · cases e18
                  · go_wp2_with fail
                    go_meet
                    exact ⟨by rw [← HB3.out]; rfl, rfl⟩
                  · go_wp2_with fail
                    go_meet
                    exact ⟨by rw [← HB3.out]; rfl, rfl⟩
                · go_wp2_with fail
                  go_meet
                  exact ⟨by rw [← HB3.out]; rfl, rfl⟩
              · go_wp2_with fail
                go_meet
                exact ⟨by rw [← HB3.out]; rfl, rfl⟩
            · go_wp2_with fail
              go_meet
              exact ⟨by rw [← HB3.out]; rfl, rfl⟩
          case rest =>
          obtain ⟨rfl, rfl⟩ := hcut
          clear he41 he40 he18 n41 n40 n18 hq HB3
          have hwz := HW.out.size
          have hrz := HR3.out.size
          have PN := Lib.hid (placedN_any 116 k w4 (by decide))
          cases b3
          · have HNX := Lib.hid (show firstBad m (k + 1) (X.drop (k + 1)) = firstBad m 0 X by rw [← HFB.out, HFS.out]; rfl)
            clear HFS HFB PN
            go_wp2_with fail
            go_roundw
            case rel => exact ⟨k + 1, by omega, by go_num, HR3, HNX⟩
            case measure => simp [intOf]; omega
          · have HFX := Lib.hid (show F = (116, [(k : Int)]) by rw [← HF2.out, ← HFB.out, HFS.out]; rfl)
            clear HFS HFB p0 p1 p2 p3
            go_wp2_with fail
            refine PN.out.mono ?_
            rintro e w5 ⟨v, rfl, ⟨A5, c5, rfl, r1, r2, r3⟩, hb5⟩
            have R1 := Lib.hid r1
            have R2 := Lib.hid r2
            have R3 := Lib.hid r3
            have HH := Lib.hid (And.intro hwz hrz)
            have hBf := (HB0.out.below HR3.out).below hb5
            have HBW := Lib.hid (HW.out.trans (HR3.out.mono hwz))
            have HBX := Lib.hid (HBW.out.trans (hb5.mono HBW.out.size))
            clear r1 r2 r3 PN hwz hrz hb5
            have hln : ([(k : Int)] : List Int).length = 1 := rfl
            rw [hln]
            clear hln
            obtain ⟨u1, hu1⟩ : ∃ u1, u1 = Value.int .i64 116 := ⟨_, rfl⟩
            obtain ⟨u2, hu2⟩ : ∃ u2, u2 = Value.slice A5 1 c5 := ⟨_, rfl⟩
            have z0 := hBf.cell 0
            have z1 := hBf.cell 1
            have q0 := hBf.frozen 0
            have q1 := hBf.frozen 1
            have hB2 := (hBf.set 0 (u1)).set 1 (u2)
            have e0 := hB2.cell 0
            have e1 := hB2.cell 1
            simp only [List.getElem?_toArray, List.getElem?_cons_zero, List.getElem?_cons_succ, List.setIfInBounds_toArray, List.set_cons_succ, List.set_cons_zero] at e0 e1 z0 z1
            have E0 := Lib.hid e0
            have E1 := Lib.hid e1
            have hbF : Below w.heap.size w ((w5.setCell ⟨w.heap.size, 0, none⟩ (u1)).setCell ⟨w.heap.size, 1, none⟩ (u2)) := (HBX.out.setCell (Nat.le_refl _) _).setCell (Nat.le_refl _) _
            have EF := Lib.hid hbF
            clear hbF e0 e1 hB2 hBf
            subst hu1
            subst hu2
            go_wp2_with fail
            refine bodyPost_ret (v := .agg #[.int .i64 116, .slice A5 1 c5]) ?_ rfl ?_
            · have e0 := E0.out
              have e1 := E1.out
              generalize ((w5.setCell ⟨w.heap.size, 0, none⟩ (.int .i64 116)).setCell ⟨w.heap.size, 1, none⟩ (.slice A5 1 c5)) = WF at *
              simp [results, Tryd.results25, go_sem, e0, e1]
            · rw [HFX.out]
              refine ⟨_, rfl, ⟨A5, c5, rfl, ?_, R2.out⟩, EF.out⟩
              intro q hq
              obtain ⟨b', o', hAe, hbx2, hc⟩ := R1.out q hq
              have hge := (R3.out b' o' none hAe).1
              have hsz := HSZ0.out
              have hwz := HH.out.1
              have hrz := HH.out.2
              refine ⟨b', o', hAe, by simpa [World.setCell] using hbx2, fun q u hu => ?_⟩
              rw [World.cell?_setCell_other _ _ _ _ (by intro h; injection h with h; omega), World.cell?_setCell_other _ _ _ _ (by intro h; injection h with h; omega)]
              exact hc q u hu
        · have hq : ((k : Int) == (m : Int) - 1) = false := by simp; omega
          have hq2 : (k + 1 == m) = false := by simp [hkm]
          rw [hq2] at HB3
          have HB4 := Lib.hid (show b2 = b3 by rw [← HB3.out]; cases b2 <;> rfl)
          obtain rfl := HB4.out
          clear hkm hq2 he41 he40 he18 n41 n40 n18 HB3 HB4
          generalize b2 = b3 at *
          have hwz := HW.out.size
          have hrz := HR3.out.size
          have PN := Lib.hid (placedN_any 116 k w4 (by decide))
          cases b3
          · have HNX := Lib.hid (show firstBad m (k + 1) (X.drop (k + 1)) = firstBad m 0 X by rw [← HFB.out, HFS.out]; rfl)
            clear HFS HFB PN
            go_wp2_with fail
            go_roundw
            case rel => exact ⟨k + 1, by omega, by go_num, HR3, HNX⟩
            case measure => simp [intOf]; omega
          · have HFX := Lib.hid (show F = (116, [(k : Int)]) by rw [← HF2.out, ← HFB.out, HFS.out]; rfl)
            clear HFS HFB p0 p1 p2 p3
            go_wp2_with fail
            refine PN.out.mono ?_
            rintro e w5 ⟨v, rfl, ⟨A5, c5, rfl, r1, r2, r3⟩, hb5⟩
            have R1 := Lib.hid r1
            have R2 := Lib.hid r2
            have R3 := Lib.hid r3
            have HH := Lib.hid (And.intro hwz hrz)
            have hBf := (HB0.out.below HR3.out).below hb5
            have HBW := Lib.hid (HW.out.trans (HR3.out.mono hwz))
            have HBX := Lib.hid (HBW.out.trans (hb5.mono HBW.out.size))
            clear r1 r2 r3 PN hwz hrz hb5
            have hln : ([(k : Int)] : List Int).length = 1 := rfl
            rw [hln]
            clear hln
            obtain ⟨u1, hu1⟩ : ∃ u1, u1 = Value.int .i64 116 := ⟨_, rfl⟩
            obtain ⟨u2, hu2⟩ : ∃ u2, u2 = Value.slice A5 1 c5 := ⟨_, rfl⟩
            have z0 := hBf.cell 0
            have z1 := hBf.cell 1
            have q0 := hBf.frozen 0
            have q1 := hBf.frozen 1
            have hB2 := (hBf.set 0 (u1)).set 1 (u2)
            have e0 := hB2.cell 0
            have e1 := hB2.cell 1
            simp only [List.getElem?_toArray, List.getElem?_cons_zero, List.getElem?_cons_succ, List.setIfInBounds_toArray, List.set_cons_succ, List.set_cons_zero] at e0 e1 z0 z1
            have E0 := Lib.hid e0
            have E1 := Lib.hid e1
            have hbF : Below w.heap.size w ((w5.setCell ⟨w.heap.size, 0, none⟩ (u1)).setCell ⟨w.heap.size, 1, none⟩ (u2)) := (HBX.out.setCell (Nat.le_refl _) _).setCell (Nat.le_refl _) _
            have EF := Lib.hid hbF
            clear hbF e0 e1 hB2 hBf
            subst hu1
            subst hu2
            go_wp2_with fail
            refine bodyPost_ret (v := .agg #[.int .i64 116, .slice A5 1 c5]) ?_ rfl ?_
            · have e0 := E0.out
              have e1 := E1.out
              generalize ((w5.setCell ⟨w.heap.size, 0, none⟩ (.int .i64 116)).setCell ⟨w.heap.size, 1, none⟩ (.slice A5 1 c5)) = WF at *
              simp [results, Tryd.results25, go_sem, e0, e1]
            · rw [HFX.out]
              refine ⟨_, rfl, ⟨A5, c5, rfl, ?_, R2.out⟩, EF.out⟩
              intro q hq
              obtain ⟨b', o', hAe, hbx2, hc⟩ := R1.out q hq
              have hge := (R3.out b' o' none hAe).1
              have hsz := HSZ0.out
              have hwz := HH.out.1
              have hrz := HH.out.2
              refine ⟨b', o', hAe, by simpa [World.setCell] using hbx2, fun q u hu => ?_⟩
              rw [World.cell?_setCell_other _ _ _ _ (by intro h; injection h with h; omega), World.cell?_setCell_other _ _ _ _ (by intro h; injection h with h; omega)]
              exact hc q u hu
      · obtain rfl : k = m := by omega
        have HFX := Lib.hid (show F = (0, []) by
          rw [← HF2.out, ← HFB.out, List.drop_of_length_le (by rw [HM.out]; exact Nat.le_refl _)]; rfl)
        have hBf := HB0.out.below HR.out
        have HBW := Lib.hid (HW.out.trans (HR.out.mono HW.out.size))
        clear HF2 HFB
        have NC := Lib.hid (none_ret wr)
        go_wp2_with fail
        refine NC.out.mono ?_
        rintro e w5 ⟨rfl, hb5⟩
        have hBf := hBf.below hb5
        have HBX := Lib.hid (HBW.out.trans (hb5.mono HBW.out.size))
        unfold bareV
        clear hb5 NC HBW
        obtain ⟨u1, hu1⟩ : ∃ u1, u1 = Value.int .i64 0 := ⟨_, rfl⟩
        obtain ⟨u2, hu2⟩ : ∃ u2, u2 = Value.slice none 0 0 := ⟨_, rfl⟩
        have z0 := hBf.cell 0
        have z1 := hBf.cell 1
        have q0 := hBf.frozen 0
        have q1 := hBf.frozen 1
        have hB2 := (hBf.set 0 (u1)).set 1 (u2)
        have e0 := hB2.cell 0
        have e1 := hB2.cell 1
        simp only [List.getElem?_toArray, List.getElem?_cons_zero, List.getElem?_cons_succ, List.setIfInBounds_toArray, List.set_cons_succ, List.set_cons_zero] at e0 e1 z0 z1
        have E0 := Lib.hid e0
        have E1 := Lib.hid e1
        have hbF : Below w.heap.size w ((w5.setCell ⟨w.heap.size, 0, none⟩ (u1)).setCell ⟨w.heap.size, 1, none⟩ (u2)) := (HBX.out.setCell (Nat.le_refl _) _).setCell (Nat.le_refl _) _
        have EF := Lib.hid hbF
        clear hbF e0 e1 hB2 hBf
        subst hu1
        subst hu2
        go_wp2_with fail
        refine bodyPost_ret (v := .agg #[.int .i64 0, .slice none 0 0]) ?_ rfl ?_
        · have e0 := E0.out
          have e1 := E1.out
          generalize ((w5.setCell ⟨w.heap.size, 0, none⟩ (.int .i64 0)).setCell ⟨w.heap.size, 1, none⟩ (.slice none 0 0)) = WF at *
          simp [results, Tryd.results25, go_sem, e0, e1]
        · rw [HFX.out]
          exact ⟨_, rfl, ⟨none, 0, rfl, RdL.nil _ _ _ _, fun _ => rfl⟩, EF.out⟩
end Go.Proofs.YtpogngdddendiaaDoor
