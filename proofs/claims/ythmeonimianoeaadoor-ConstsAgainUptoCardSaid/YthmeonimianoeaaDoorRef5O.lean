/- The walk over patoisref5.look: what it answers is Fine just where the plain function finds nothing amiss; and Check. Bounds on the lengths. -/
import Derived.Test.YthmeonimianoeaaDoorRef5L
set_option linter.unusedVariables false
set_option linter.unusedSimpArgs false
namespace Go.Proofs.YthmeonimianoeaaDoor
open Go.RowKit

set_option maxRecDepth 100000 in
set_option maxHeartbeats 8000000 in
theorem look5_step (A : Option Addr) (cp : Nat) (L : List Nd) (hL : L.length ≤ 4000000) (hok : ∀ x ∈ L, NdOk x) (d : Nat) (hd : d ≤ 30) (ih : ∀ d', d = d' + 1 → Look5Said A cp L d') : Look5Said A cp L d := by
  intro i e word last w E hie heL hrd hEE
  have HEA := Lib.hid (early5_step A cp L hL hok d hd ih)
  obtain ⟨m, hml⟩ : ∃ m, m = L.length := ⟨_, rfl⟩
  have hiL : i < L.length := by omega
  obtain ⟨x, hx⟩ : ∃ x, x = L[i] := ⟨_, rfl⟩
  obtain ⟨hxs, hxk⟩ := hok x (by rw [hx]; exact List.getElem_mem _)
  obtain ⟨b, o, rfl, hbl⟩ := hrd.addr (by omega)
  have hcs := (hrd.at_ hiL).2
  rw [← hx] at hcs
  have hc0 := hcs 0 _ rfl
  have hc1 := hcs 1 _ rfl
  have hc2 := hcs 2 _ rfl
  have hc3 := hcs 3 _ rfl
  have hc4 := hcs 4 _ rfl
  simp only [Nat.add_zero] at hc0
  have HX := Lib.hid (show L[i]? = some x by rw [hx]; exact List.getElem?_eq_getElem hiL)
  have HELL := Lib.hid heL
  rw [← hml] at hL heL ⊢
  have him : i < m := by omega
  have HM := Lib.hid hml
  have HIH := Lib.hid ih
  have HOK := Lib.hid hok
  have HAX := Lib.hid (fun W => alone_any x W hxs)
  have HWX := Lib.hid (fun W => word5_any x.kind W)
  have HDX := Lib.hid (fun W => command5k_any x.kind W)
  obtain ⟨xkind, xn, xk, xsize, xs⟩ := x
  have HB := Lib.hid (show headBad ⟨xkind, xn, xk, xsize, xs⟩ ((e : Int) - i) word last = (!kindB word xkind || !aloneB ⟨xkind, xn, xk, xsize, xs⟩ || decide (xsize < 1) || decide (xsize > (e : Int) - i) || (last && xsize != (e : Int) - i)) by
    rw [headBad, aloneB, Bool.not_and, ← Bool.or_assoc])
  obtain ⟨H, hH⟩ : ∃ H, H = headBad ⟨xkind, xn, xk, xsize, xs⟩ ((e : Int) - i) word last := ⟨_, rfl⟩
  rw [← hH] at HB
  have HH := Lib.hid hH
  have HKR := Lib.hid (fun h => kind_range (word := word) (kind := xkind) h)
  have HE := Lib.hid hEE
  clear hml hx hcs ih hok hH hEE
  simp only at hxs hxk hc0 hc1 hc2 hc3 hc4
  go_enter Tryd.func45, Tryd.ntmps45
  generalize hQQ : bodyPost Tryd.prog Tryd.f45 (FRet (lookP L d i e word last).isNone w) = QQ
  have HQQ := Lib.hid hQQ
  clear hQQ
  go_upto_region 2 with (fail)
  obtain ⟨W0, hW0⟩ : ∃ W0, W0 = (w.alloc (.cells #[.int .i64 0, .slice none 0 0] 43)).alloc (.cells #[.int .i64 xkind, .int .i64 xn, .int .i64 xk, .int .i64 xsize, .string ⟨xs.toArray⟩] 40) := ⟨_, rfl⟩
  rw [← hW0]
  have hb0 : Below w.heap.size w W0 := by rw [hW0]; exact below2 w _ _
  have hB0 : Blk W0 w.heap.size 43 #[.int .i64 0, .slice none 0 0] := by rw [hW0]; exact (Blk.new w _ _).below ((Below.refl _ _).alloc (Nat.le_refl _) _)
  have x0 : W0.cell? ⟨w.heap.size + 1, 0, none⟩ = some (.int .i64 xkind) := by rw [hW0]; exact cell_new1 w _ _ _ 0
  have x1 : W0.cell? ⟨w.heap.size + 1, 1, none⟩ = some (.int .i64 xn) := by rw [hW0]; exact cell_new1 w _ _ _ 1
  have x2 : W0.cell? ⟨w.heap.size + 1, 2, none⟩ = some (.int .i64 xk) := by rw [hW0]; exact cell_new1 w _ _ _ 2
  have x3 : W0.cell? ⟨w.heap.size + 1, 3, none⟩ = some (.int .i64 xsize) := by rw [hW0]; exact cell_new1 w _ _ _ 3
  have x4 : W0.cell? ⟨w.heap.size + 1, 4, none⟩ = some (.string ⟨xs.toArray⟩) := by rw [hW0]; exact cell_new1 w _ _ _ 4
  have HRD := Lib.hid (hrd.below hb0)
  clear hW0 hc0 hc1 hc2 hc3 hc4 hrd
  generalize hg0 : w.heap.size = g0 at hB0 x0 x1 x2 x3 x4 ⊢
  have HG0 := Lib.hid (hg0)
  have HB0 := Lib.hid hB0
  have HBW0 := Lib.hid hb0
  clear hg0 hB0 hb0
  obtain ⟨kb, hkb⟩ : ∃ kb, kb = kindB word xkind := ⟨_, rfl⟩
  rw [← hkb] at HB
  have HKB := Lib.hid hkb
  clear hkb
  go_cut [14] from 25 to 39 (fun v wx => v = .bool kb ∧ W0 = wx)
  case first =>
    cases word
    · cases hq1 : wordB xkind
      all_goals cases hq2 : commandB xkind
      all_goals
        have HQ1 := Lib.hid hq1
        have HQ2 := Lib.hid hq2
        clear hq1 hq2
        go_wp2_with fail
        refine (HWX.out _).mono ?_
        rw [HQ1.out]
        rintro e w1 ⟨rfl, rfl⟩
        go_wp2_with fail
        refine (HDX.out _).mono ?_
        rw [HQ2.out]
        rintro e w1 ⟨rfl, rfl⟩
        go_wp2_with fail
        go_meet
        exact ⟨congrArg Value.bool (by rw [HKB.out]; exact HQ2.out.symm), rfl⟩
    · cases hq1 : wordB xkind
      case true =>
        have HQ1 := Lib.hid hq1
        clear hq1
        go_wp2_with fail
        refine (HWX.out _).mono ?_
        rw [HQ1.out]
        rintro e w1 ⟨rfl, rfl⟩
        go_wp2_with fail
        go_meet
        exact ⟨congrArg Value.bool (by rw [HKB.out]; exact HQ1.out.symm), rfl⟩
      case false =>
        cases hq2 : commandB xkind
        all_goals
          have HQ1 := Lib.hid hq1
          have HQ2 := Lib.hid hq2
          clear hq1 hq2
          go_wp2_with fail
          refine (HWX.out _).mono ?_
          rw [HQ1.out]
          rintro e w1 ⟨rfl, rfl⟩
          go_wp2_with fail
          refine (HDX.out _).mono ?_
          rw [HQ2.out]
          rintro e w1 ⟨rfl, rfl⟩
          go_wp2_with fail
          go_meet
          exact ⟨congrArg Value.bool (by rw [HKB.out]; exact HQ1.out.symm), rfl⟩
  case rest =>
  obtain ⟨rfl, rfl⟩ := hcut
  clear HWX HDX
  go_upto_region 3 with (fail)
  go_cut [71] from 40 to 71 (fun v wx => v = .bool H ∧ Below W0.heap.size W0 wx)
  case first =>
    cases kb
    · go_wp2_with fail
      go_meet
      exact ⟨congrArg Value.bool (by rw [HB.out]; rfl), Below.refl _ _⟩
    have HAX2 := Lib.hid (fun W => HAX.out W (HKR.out HKB.out.symm))
    generalize aloneB ⟨xkind, xn, xk, xsize, xs⟩ = fb at *
    clear HAX HKB
    go_wp2_with fail
    refine (HAX2.out _).mono ?_
    cases fb
    · rintro e w1 ⟨rfl, hb1⟩
      go_wp2_with fail
      go_meet
      exact ⟨congrArg Value.bool (by rw [HB.out]; rfl), hb1⟩
    rintro e1 w1 ⟨rfl, hb1⟩
    have y3 := cell_keep hb1 x3
    clear x0 x1 x2 x3 x4
    by_cases hs1 : xsize < 1
    · go_wp2_with fail
      go_meet
      exact ⟨congrArg Value.bool (by rw [HB.out]; simp [hs1]), hb1⟩
    by_cases hs2 : xsize > (e : Int) - i
    · go_wp2_with fail
      go_meet
      exact ⟨congrArg Value.bool (by rw [HB.out]; simp [hs1, hs2]), hb1⟩
    cases last
    · obtain rfl : E = -1 := HE.out
      go_wp2_with fail
      go_meet
      exact ⟨congrArg Value.bool (by rw [HB.out]; simp [hs1, hs2]), hb1⟩
    · obtain rfl : E = e := HE.out
      cases hs3 : (xsize != (e : Int) - i)
      case false =>
        have hs4 : ((i : Int) + xsize != e) = false := by rw [bne_eq_false_iff_eq] at hs3 ⊢; omega
        go_wp2_with fail
        go_meet
        exact ⟨congrArg Value.bool (by rw [HB.out]; simp [hs1, hs2, hs3]), hb1⟩
      case true =>
        have hs4 : ((i : Int) + xsize != e) = true := by rw [bne_iff_ne] at hs3 ⊢; omega
        go_wp2_with fail
        go_meet
        exact ⟨congrArg Value.bool (by rw [HB.out]; simp [hs1, hs2, hs3]), hb1⟩
  case rest =>
  obtain ⟨rfl, hb1⟩ := hcut
  have HRD1 := Lib.hid (HRD.out.below hb1)
  have HB1 := Lib.hid (HB0.out.below hb1)
  have HBW1 := Lib.hid (HBW0.out.trans (hb1.mono HBW0.out.size))
  replace x0 := cell_keep hb1 x0
  replace x1 := cell_keep hb1 x1
  replace x2 := cell_keep hb1 x2
  replace x3 := cell_keep hb1 x3
  replace x4 := cell_keep hb1 x4
  clear hb1 HAX HE HRD HB0 HBW0
  cases H
  case true =>
    go_wp2_with fail
    refine (placed_any 110 i _ (by decide)).mono ?_
    rintro e1 w1 ⟨v, rfl, ⟨A1, c1, rfl, _, _⟩, hb1⟩
    have HBK := Lib.hid (HB1.out.below hb1)
    have HBW := Lib.hid (HBW1.out.trans (hb1.mono HBW1.out.size))
    clear x0 x1 x2 x3 x4 hb1
    have hB := HBK.out
    have z0 := hB.cell 0
    have z1 := hB.cell 1
    have q0 := hB.frozen 0
    have q1 := hB.frozen 1
    have hB2 := (hB.set 0 (.int .i64 110)).set 1 (.slice A1 1 c1)
    have e0 := hB2.cell 0
    have e1 := hB2.cell 1
    simp only [List.getElem?_toArray, List.getElem?_cons_zero, List.getElem?_cons_succ, List.setIfInBounds_toArray, List.set_cons_succ, List.set_cons_zero] at e0 e1 z0 z1
    have E0 := Lib.hid e0
    have E1 := Lib.hid e1
    have EF := Lib.hid (show Below w.heap.size w ((w1.setCell ⟨g0, 0, none⟩ (.int .i64 110)).setCell ⟨g0, 1, none⟩ (.slice A1 1 c1)) from (HBW.out.setCell (Nat.le_of_eq HG0.out) _).setCell (Nat.le_of_eq HG0.out) _)
    clear e0 e1 hB2 hB
    go_wp2_with fail
    rw [← HQQ.out]
    refine bodyPost_ret (v := .agg #[.int .i64 110, .slice A1 1 c1]) ?_ rfl ⟨_, _, _, _, rfl, (by rw [lookP_bad HX.out HH.out.symm]; rfl), EF.out⟩
    have e0 := E0.out
    have e1 := E1.out
    generalize ((w1.setCell ⟨g0, 0, none⟩ (.int .i64 110)).setCell ⟨g0, 1, none⟩ (.slice A1 1 c1)) = WF at *
    simp [results, go_sem, e0, e1, Tryd.results45, Tryd.results82, Tryd.results18]
  case false =>
  have HHD := Lib.hid (headBad_false HH.out.symm)
  obtain ⟨hkk, _, hck, hs1, hs2, _⟩ := HHD.out
  simp only at hkk hck hs1 hs2
  have hk0 := children_k hck
  have HCH := Lib.hid hck
  have HKR2 := Lib.hid (kind_range hkk)
  have HTK := Lib.hid (two_kids hck)
  clear hck hkk HKR
  obtain ⟨q, rfl⟩ : ∃ q : Nat, xsize = q := ⟨xsize.toNat, by omega⟩
  obtain ⟨K, rfl⟩ : ∃ K : Nat, xk = K := ⟨xk.toNat, by omega⟩
  have hq1 : 1 ≤ q := by omega
  have hq2 : i + q ≤ e := by omega
  have hK : K ≤ 9223372036854775807 := by omega
  have HQ := Lib.hid (show (i : Nat) + ((q : Int)).toNat = i + q by omega)
  have hiqL : i + q ≤ L.length := by rw [← HM.out]; omega
  have HIQ := Lib.hid hiqL
  clear hs1 hs2 hk0 hxk hiqL
  go_upto_block 0 with (fail)
  go_cut [16] from 76 to 123 (fun v wx => wc = wx ∧ Hid (preP L (i + q) K (i + 1) = false))
  case first =>
    go_wp2_with fail
    go_loopw [15, 16] (fun c j wr => ∃ kk cc : Nat, c = .int .i64 cc ∧ j = .int .i64 kk ∧ i + 1 + kk ≤ cc ∧ cc ≤ i + q ∧ wc = wr ∧ Hid (preP L (i + q) K (i + 1) = preP L (i + q) (K - kk) cc) ∧ Hid (∀ r, chainP L (i + q) r cc → chainP L (i + q) (kk + r) (i + 1))) (fun c _ _ => i + q + 1 - (intOf c).toNat)
    case atStart => exact ⟨0, i + 1, by go_num, rfl, by omega, by omega, rfl, rfl, Lib.hid (fun r h => by rw [Nat.zero_add]; exact h)⟩
    case round =>
      obtain ⟨kk, cc, rfl, rfl, hc1, hc2, rfl, HP, HC⟩ := hrel
      by_cases hk : kk < K
      · by_cases hce : cc < i + q
        · have hcl : cc < m := by omega
          have hcl' : cc < L.length := by rw [← HM.out]; exact hcl
          have hcs := (HRD1.out.at_ hcl').2 3 _ rfl
          obtain ⟨y, hy⟩ : ∃ y, y = L[cc] := ⟨_, rfl⟩
          rw [← hy] at hcs
          have HP1 := Lib.hid (show (y.size < 1 ∨ y.size > ((i + q : Nat) : Int) - cc) → preP L (i + q) K (i + 1) = false ∧ chainP L (i + q) kk (i + 1) from fun h => by
            refine ⟨?_, ?_⟩
            · rw [HP.out, show K - kk = (K - (kk + 1)) + 1 by omega]
              exact preP_bad hce hcl' (by rw [← hy]; exact h)
            · exact HC.out 0 (chain_bad hce hcl' (by rw [← hy]; exact h)))
          have HP2 := Lib.hid (show ¬ (y.size < 1 ∨ y.size > ((i + q : Nat) : Int) - cc) → preP L (i + q) K (i + 1) = preP L (i + q) (K - (kk + 1)) (cc + y.size.toNat) ∧ ∀ r, chainP L (i + q) r (cc + y.size.toNat) → chainP L (i + q) (kk + 1 + r) (i + 1) from fun h => by
            refine ⟨?_, fun r hr => ?_⟩
            · rw [HP.out, show K - kk = (K - (kk + 1)) + 1 by omega, preP_next hce hcl' (by rw [← hy]; exact h), ← hy]
            · have h2 := HC.out (r + 1) (chain_next hce hcl' (by rw [← hy]; exact h) (by rw [← hy]; exact hr))
              rwa [show kk + (r + 1) = kk + 1 + r by omega] at h2)
          have HEE := Lib.hid (show chainP L (i + q) kk (i + 1) → Calls Tryd.prog 82 #[.slice (some ⟨b, o, none⟩) m cp, .int .i64 i, .int .i64 ((31 : Int) - d), .int .i64 kk] wc (FRet false wc) from fun hch => by
            have h := HEA.out i kk _ wc HX.out (by simp only; omega) (by simp only [Int.toNat_natCast]; exact HIQ.out) HKR2.out HCH.out (by simp only; omega) (by simp only [Int.toNat_natCast]; exact hch) HRD1.out
            rwa [← HM.out] at h)
          generalize y.size = sz at *
          clear hy hcl' HP HC
          by_cases hbad : sz < 1 ∨ sz > (i : Int) + q - cc
          · have hp1 := HP1.out (by omega)
            have HF := Lib.hid hp1.1
            have HEC := Lib.hid (HEE.out hp1.2)
            have HNO := Lib.hid (lookP_chain (d := d) (e := e) (word := word) (last := last) HX.out HELL.out (r := kk) (by simp only [Int.toNat_natCast]; exact hk) (by simp only [Int.toNat_natCast]; exact hp1.2))
            clear HP1 HP2 HEE hp1
            by_cases hk1 : kk + 1 < K
            · by_cases hs1 : sz < 1
              · clear hbad
                go_wp2_with fail
                refine HEC.out.mono ?_
                rintro e1 w1 ⟨c, A, n, k, rfl, hc, hb1⟩
                have HBK := Lib.hid (HB1.out.below hb1)
                have HBW := Lib.hid (HBW1.out.trans (hb1.mono HBW1.out.size))
                clear x0 x1 x2 x3 x4 hb1
                have hB := HBK.out
                have z0 := hB.cell 0
                have z1 := hB.cell 1
                have q0 := hB.frozen 0
                have q1 := hB.frozen 1
                have hB2 := (hB.set 0 (.int .i64 c)).set 1 (.slice A n k)
                have e0 := hB2.cell 0
                have e1 := hB2.cell 1
                simp only [List.getElem?_toArray, List.getElem?_cons_zero, List.getElem?_cons_succ, List.setIfInBounds_toArray, List.set_cons_succ, List.set_cons_zero] at e0 e1 z0 z1
                have E0 := Lib.hid e0
                have E1 := Lib.hid e1
                have EF := Lib.hid (show Below w.heap.size w ((w1.setCell ⟨g0, 0, none⟩ (.int .i64 c)).setCell ⟨g0, 1, none⟩ (.slice A n k)) from (HBW.out.setCell (Nat.le_of_eq HG0.out) _).setCell (Nat.le_of_eq HG0.out) _)
                clear e0 e1 hB2 hB
                go_wp2_with fail
                rw [← HQQ.out]
                refine bodyPost_ret (v := .agg #[.int .i64 c, .slice A n k]) ?_ rfl ⟨_, _, _, _, rfl, (by rw [HNO.out]; exact hc), EF.out⟩
                have e0 := E0.out
                have e1 := E1.out
                generalize ((w1.setCell ⟨g0, 0, none⟩ (.int .i64 c)).setCell ⟨g0, 1, none⟩ (.slice A n k)) = WF at *
                simp [results, go_sem, e0, e1, Tryd.results45, Tryd.results82, Tryd.results18]
              · have hs2 : sz > (i : Int) + q - cc := by omega
                clear hbad
                go_wp2_with fail
                refine HEC.out.mono ?_
                rintro e1 w1 ⟨c, A, n, k, rfl, hc, hb1⟩
                have HBK := Lib.hid (HB1.out.below hb1)
                have HBW := Lib.hid (HBW1.out.trans (hb1.mono HBW1.out.size))
                clear x0 x1 x2 x3 x4 hb1
                have hB := HBK.out
                have z0 := hB.cell 0
                have z1 := hB.cell 1
                have q0 := hB.frozen 0
                have q1 := hB.frozen 1
                have hB2 := (hB.set 0 (.int .i64 c)).set 1 (.slice A n k)
                have e0 := hB2.cell 0
                have e1 := hB2.cell 1
                simp only [List.getElem?_toArray, List.getElem?_cons_zero, List.getElem?_cons_succ, List.setIfInBounds_toArray, List.set_cons_succ, List.set_cons_zero] at e0 e1 z0 z1
                have E0 := Lib.hid e0
                have E1 := Lib.hid e1
                have EF := Lib.hid (show Below w.heap.size w ((w1.setCell ⟨g0, 0, none⟩ (.int .i64 c)).setCell ⟨g0, 1, none⟩ (.slice A n k)) from (HBW.out.setCell (Nat.le_of_eq HG0.out) _).setCell (Nat.le_of_eq HG0.out) _)
                clear e0 e1 hB2 hB
                go_wp2_with fail
                rw [← HQQ.out]
                refine bodyPost_ret (v := .agg #[.int .i64 c, .slice A n k]) ?_ rfl ⟨_, _, _, _, rfl, (by rw [HNO.out]; exact hc), EF.out⟩
                have e0 := E0.out
                have e1 := E1.out
                generalize ((w1.setCell ⟨g0, 0, none⟩ (.int .i64 c)).setCell ⟨g0, 1, none⟩ (.slice A n k)) = WF at *
                simp [results, go_sem, e0, e1, Tryd.results45, Tryd.results82, Tryd.results18]
            · by_cases hs1 : sz < 1
              · clear hbad HEC
                go_wp2_with fail
                go_meet
                exact ⟨rfl, HF⟩
              · have hs2 : sz > (i : Int) + q - cc := by omega
                clear hbad HEC
                go_wp2_with fail
                go_meet
                exact ⟨rfl, HF⟩
          · have hp2 := HP2.out (by omega)
            have hs1 : ¬ sz < 1 := by omega
            have hs2 : ¬ sz > (i : Int) + q - cc := by omega
            obtain ⟨z, rfl⟩ : ∃ z : Nat, sz = z := ⟨sz.toNat, by omega⟩
            simp only [Int.toNat_natCast] at hp2
            have HF := Lib.hid hp2.1
            have HG := Lib.hid hp2.2
            clear HP1 HP2 HEE hp2 hbad
            go_wp2_with fail
            go_roundw
            case rel => exact ⟨kk + 1, cc + z, by go_num, by go_num, by omega, by omega, trivial, HF, HG⟩
            case measure => simp [intOf]; omega
        · have HF := Lib.hid (show preP L (i + q) K (i + 1) = true by rw [HP.out, show K - kk = (K - (kk + 1)) + 1 by omega]; exact preP_end (by omega))
          have HNO := Lib.hid (show (lookP L d i e word last).isNone = false by
            by_cases hlf : (K : Int) = 0 ∧ (q : Int) ≠ 1
            · rw [lookP_leaf HX.out HH.out.symm hlf]; rfl
            · rw [lookP_pre HX.out HH.out.symm hlf (by simp only [Int.toNat_natCast, HQ.out]; exact HF.out)]; rfl)
          clear HP HC
          go_wp2_with fail
          refine (placed_any 110 i _ (by decide)).mono ?_
          rintro e1 w1 ⟨v, rfl, ⟨A1, c1, rfl, _, _⟩, hb1⟩
          have HBK := Lib.hid (HB1.out.below hb1)
          have HBW := Lib.hid (HBW1.out.trans (hb1.mono HBW1.out.size))
          clear x0 x1 x2 x3 x4 hb1
          have hB := HBK.out
          have z0 := hB.cell 0
          have z1 := hB.cell 1
          have q0 := hB.frozen 0
          have q1 := hB.frozen 1
          have hB2 := (hB.set 0 (.int .i64 110)).set 1 (.slice A1 1 c1)
          have e0 := hB2.cell 0
          have e1 := hB2.cell 1
          simp only [List.getElem?_toArray, List.getElem?_cons_zero, List.getElem?_cons_succ, List.setIfInBounds_toArray, List.set_cons_succ, List.set_cons_zero] at e0 e1 z0 z1
          have E0 := Lib.hid e0
          have E1 := Lib.hid e1
          have EF := Lib.hid (show Below w.heap.size w ((w1.setCell ⟨g0, 0, none⟩ (.int .i64 110)).setCell ⟨g0, 1, none⟩ (.slice A1 1 c1)) from (HBW.out.setCell (Nat.le_of_eq HG0.out) _).setCell (Nat.le_of_eq HG0.out) _)
          clear e0 e1 hB2 hB
          go_wp2_with fail
          rw [← HQQ.out]
          refine bodyPost_ret (v := .agg #[.int .i64 110, .slice A1 1 c1]) ?_ rfl ⟨_, _, _, _, rfl, (by rw [HNO.out]; rfl), EF.out⟩
          have e0 := E0.out
          have e1 := E1.out
          generalize ((w1.setCell ⟨g0, 0, none⟩ (.int .i64 110)).setCell ⟨g0, 1, none⟩ (.slice A1 1 c1)) = WF at *
          simp [results, go_sem, e0, e1, Tryd.results45, Tryd.results82, Tryd.results18]
      · have HF := Lib.hid (show preP L (i + q) K (i + 1) = false by rw [HP.out, show K - kk = 0 by omega]; rfl)
        clear HP HC
        go_wp2_with fail
        go_meet
        exact ⟨rfl, HF⟩
  case rest =>
  obtain ⟨rfl, HP⟩ := hcut
  have HPR := Lib.hid (show preP L (i + ((q : Int)).toNat) ((K : Int)).toNat (i + 1) = false by rw [HQ.out]; exact HP.out)
  obtain ⟨leaf, hleaf⟩ : ∃ leaf, leaf = (decide (K = 0) && decide (q ≠ 1)) := ⟨_, rfl⟩
  have HLF := Lib.hid hleaf
  clear hleaf
  go_upto_region 17 with (fail)
  go_cut [131] from 124 to 131 (fun v wx => v = .bool leaf ∧ wc = wx)
  case first =>
    by_cases hk0 : K = 0
    · have hk1 : ((K : Int) == 0) = true := by rw [beq_iff_eq]; omega
      by_cases hq0 : q = 1
      · have hq3 : ((q : Int) != 1) = false := by rw [bne_eq_false_iff_eq]; omega
        have HL2 := Lib.hid (show leaf = false by rw [HLF.out]; simp [hq0])
        clear hk0 hq0
        go_wp2_with fail
        go_meet
        exact ⟨congrArg Value.bool HL2.out.symm, rfl⟩
      · have hq3 : ((q : Int) != 1) = true := by rw [bne_iff_ne]; omega
        have HL2 := Lib.hid (show leaf = true by rw [HLF.out]; simp [hk0, hq0])
        clear hk0 hq0
        go_wp2_with fail
        go_meet
        exact ⟨congrArg Value.bool HL2.out.symm, rfl⟩
    · have hk1 : ((K : Int) == 0) = false := by rw [beq_eq_false_iff_ne]; omega
      have HL2 := Lib.hid (show leaf = false by rw [HLF.out]; simp [hk0])
      clear hk0
      go_wp2_with fail
      go_meet
      exact ⟨congrArg Value.bool HL2.out.symm, rfl⟩
  case rest =>
  obtain ⟨rfl, rfl⟩ := hcut
  have hLF : leaf = true → ((K : Int) = 0 ∧ (q : Int) ≠ 1) := fun h => by
    have h2 := HLF.out
    rw [h] at h2
    simp only [eq_comm (a := true), Bool.and_eq_true, decide_eq_true_eq] at h2
    omega
  have hLF2 : leaf = false → ¬ ((K : Int) = 0 ∧ (q : Int) ≠ 1) := fun h => by
    have h2 := HLF.out
    rw [h] at h2
    simp only [eq_comm (a := false), Bool.and_eq_false_iff, decide_eq_false_iff_not] at h2
    omega
  have HLT := Lib.hid hLF
  have HLN := Lib.hid hLF2
  clear hLF hLF2 HLF
  cases leaf
  case true =>
    go_wp2_with fail
    refine (placed_any 110 i _ (by decide)).mono ?_
    rintro e1 w1 ⟨v, rfl, ⟨A1, c1, rfl, _, _⟩, hb1⟩
    have HBK := Lib.hid (HB1.out.below hb1)
    have HBW := Lib.hid (HBW1.out.trans (hb1.mono HBW1.out.size))
    clear x0 x1 x2 x3 x4 hb1
    have hB := HBK.out
    have z0 := hB.cell 0
    have z1 := hB.cell 1
    have q0 := hB.frozen 0
    have q1 := hB.frozen 1
    have hB2 := (hB.set 0 (.int .i64 110)).set 1 (.slice A1 1 c1)
    have e0 := hB2.cell 0
    have e1 := hB2.cell 1
    simp only [List.getElem?_toArray, List.getElem?_cons_zero, List.getElem?_cons_succ, List.setIfInBounds_toArray, List.set_cons_succ, List.set_cons_zero] at e0 e1 z0 z1
    have E0 := Lib.hid e0
    have E1 := Lib.hid e1
    have EF := Lib.hid (show Below w.heap.size w ((w1.setCell ⟨g0, 0, none⟩ (.int .i64 110)).setCell ⟨g0, 1, none⟩ (.slice A1 1 c1)) from (HBW.out.setCell (Nat.le_of_eq HG0.out) _).setCell (Nat.le_of_eq HG0.out) _)
    clear e0 e1 hB2 hB
    go_wp2_with fail
    rw [← HQQ.out]
    refine bodyPost_ret (v := .agg #[.int .i64 110, .slice A1 1 c1]) ?_ rfl ⟨_, _, _, _, rfl, (by rw [lookP_leaf HX.out HH.out.symm (HLT.out trivial)]; rfl), EF.out⟩
    have e0 := E0.out
    have e1 := E1.out
    generalize ((w1.setCell ⟨g0, 0, none⟩ (.int .i64 110)).setCell ⟨g0, 1, none⟩ (.slice A1 1 c1)) = WF at *
    simp [results, go_sem, e0, e1, Tryd.results45, Tryd.results82, Tryd.results18]
  case false =>
  have HNL := Lib.hid (HLN.out rfl)
  clear HLT HLN
  cases d with
  | zero =>
    go_wp2_with fail
    refine (placed_any 102 i _ (by decide)).mono ?_
    rintro e1 w1 ⟨v, rfl, ⟨A1, c1, rfl, _, _⟩, hb1⟩
    have HBK := Lib.hid (HB1.out.below hb1)
    have HBW := Lib.hid (HBW1.out.trans (hb1.mono HBW1.out.size))
    clear x0 x1 x2 x3 x4 hb1
    have hB := HBK.out
    have z0 := hB.cell 0
    have z1 := hB.cell 1
    have q0 := hB.frozen 0
    have q1 := hB.frozen 1
    have hB2 := (hB.set 0 (.int .i64 102)).set 1 (.slice A1 1 c1)
    have e0 := hB2.cell 0
    have e1 := hB2.cell 1
    simp only [List.getElem?_toArray, List.getElem?_cons_zero, List.getElem?_cons_succ, List.setIfInBounds_toArray, List.set_cons_succ, List.set_cons_zero] at e0 e1 z0 z1
    have E0 := Lib.hid e0
    have E1 := Lib.hid e1
    have EF := Lib.hid (show Below w.heap.size w ((w1.setCell ⟨g0, 0, none⟩ (.int .i64 102)).setCell ⟨g0, 1, none⟩ (.slice A1 1 c1)) from (HBW.out.setCell (Nat.le_of_eq HG0.out) _).setCell (Nat.le_of_eq HG0.out) _)
    clear e0 e1 hB2 hB
    go_wp2_with fail
    rw [← HQQ.out]
    refine bodyPost_ret (v := .agg #[.int .i64 102, .slice A1 1 c1]) ?_ rfl ⟨_, _, _, _, rfl, (by rw [lookP_deep HX.out HH.out.symm HNL.out HPR.out]; rfl), EF.out⟩
    have e0 := E0.out
    have e1 := E1.out
    generalize ((w1.setCell ⟨g0, 0, none⟩ (.int .i64 102)).setCell ⟨g0, 1, none⟩ (.slice A1 1 c1)) = WF at *
    simp [results, go_sem, e0, e1, Tryd.results45, Tryd.results82, Tryd.results18]
  | succ d =>
    have HS := Lib.hid (HIH.out d rfl)
    have HLK := Lib.hid (lookP_kids (d := d) HX.out HH.out.symm HNL.out HPR.out)
    clear HIH HPR HNL HEA
    have hd30 : d ≤ 29 := by omega
    simp only [Int.toNat_natCast, HQ.out] at HLK
    go_wp2_with fail
    go_loopw [15, 18] (fun c j wr => ∃ kk cc : Nat, c = .int .i64 cc ∧ j = .int .i64 kk ∧ kk ≤ K ∧ kk ≤ cc ∧ cc ≤ i + q ∧ Below wc.heap.size wc wr ∧ Hid (preP L (i + q) (K - kk) cc = false) ∧
        Hid (lookP L (d + 1) i e word last = kidsP (fun k c => lookP L d c (i + q) (takesB xkind K k) (decide ((k : Int) = K - 1))) L (K - kk) kk cc)) (fun c j _ => (K - (intOf j).toNat))
    case atStart => exact ⟨0, i + 1, by go_num, rfl, Nat.zero_le _, Nat.zero_le _, by omega, Below.refl _ _, HP, HLK⟩
    case round =>
      obtain ⟨kk, cc, rfl, rfl, hk1, hk2, hc2, hbr, HPC, HLC⟩ := hrel
      by_cases hk : kk < K
      · have HKS := Lib.hid (show K - kk = (K - (kk + 1)) + 1 by omega)
        have hce : cc < i + q := by
          rcases Nat.lt_or_ge cc (i + q) with h | h
          · exact h
          · have h2 := HPC.out
            rw [HKS.out, preP_end h] at h2
            cases h2
        have hcl : cc < m := by omega
        have hcl' : cc < L.length := by rw [← HM.out]; exact hcl
        have hiqL := HIQ.out
        have HRD2 := Lib.hid (HRD1.out.below hbr)
        have y0 := cell_keep hbr x0
        have y2 := cell_keep hbr x2
        have y3 := cell_keep hbr x3
        obtain ⟨tk, htk⟩ : ∃ tk, tk = takesB xkind K kk := ⟨_, rfl⟩
        have TK := Lib.hid (show ∀ W, Calls Tryd.prog 83 #[.int .i64 xkind, .int .i64 kk, .int .i64 K] W (Ret W (.bool (!tk))) from fun W => by
          have h := command5_any xkind K kk W HKR2.out (by omega) (by omega) (by omega) (by omega) HTK.out
          rw [← htk] at h
          exact h.mono fun e w' ⟨h1, h2⟩ => ⟨h1, h2 ▸ Below.refl _ _⟩)
        obtain ⟨lb, hlb⟩ : ∃ lb, lb = decide ((kk : Int) = K - 1) := ⟨_, rfl⟩
        obtain ⟨EE, hEE⟩ : ∃ EE : Int, EE = (if lb then ((i + q : Nat) : Int) else -1) := ⟨_, rfl⟩
        obtain ⟨ro, hro⟩ : ∃ ro, ro = lookP L d cc (i + q) tk lb := ⟨_, rfl⟩
        obtain ⟨r, hr⟩ : ∃ r, r = ro.isNone := ⟨_, rfl⟩
        have SK := Lib.hid (show ∀ W, RdL W 5 ndc (some ⟨b, o, none⟩) L → Calls Tryd.prog 45 #[.slice (some ⟨b, o, none⟩) m cp, .int .i64 cc, .int .i64 EE, .int .i64 ((i : Int) + q), .int .i64 ((31 : Int) - ((d : Int) + 1) + 1), .bool (!tk)] W (FRet r W) from fun W h1 => by
          have h3 := HS.out cc (i + q) tk lb W EE hce hiqL h1 hEE
          rw [← hro, ← hr, ← HM.out, Int.natCast_add] at h3
          rw [show (31 : Int) - ((d : Int) + 1) + 1 = 31 - (d : Int) by omega]
          exact h3)
        have hlb2 : ((kk : Int) == (K : Int) - 1) = lb := by rw [hlb]; rfl
        have HR1 := Lib.hid (show r = false → (lookP L (d + 1) i e word last).isNone = false from fun hz => by
          rw [hr] at hz
          cases hro2 : ro with
          | none => rw [hro2] at hz; cases hz
          | some z =>
            rw [HLC.out, HKS.out, kidsP_some (z := z) (by rw [← htk, ← hlb, ← hro, hro2])]
            rfl)
        have HR0 := Lib.hid (show r = true → (lookP L (d + 1) i e word last = kidsP (fun k c => lookP L d c (i + q) (takesB xkind K k) (decide ((k : Int) = K - 1))) L (K - (kk + 1)) (kk + 1) (cc + L[cc].size.toNat) ∧ 1 ≤ L[cc].size ∧ L[cc].size ≤ ((i + q : Nat) : Int) - cc ∧ preP L (i + q) (K - (kk + 1)) (cc + L[cc].size.toNat) = false) from fun hz => by
          have hz2 : ro = none := by rw [hr] at hz; exact Option.isNone_iff_eq_none.1 hz
          have hf := lookP_fits (d := d) (e := i + q) (word := tk) (last := lb) hcl' (by rw [← hro, hz2])
          refine ⟨?_, hf.1, hf.2.1, ?_⟩
          · rw [HLC.out, HKS.out]
            exact kidsP_none (by rw [← htk, ← hlb, ← hro, hz2]) hcl'
          · have h2 := HPC.out
            rw [HKS.out, preP_next hce hcl' (by omega)] at h2
            exact h2)
        have HEE := Lib.hid hEE
        clear htk hlb hr hro hEE HPC HLC HKS HS hiqL
        go_upto_if 150 with (fail)
        go_cut [19] from 151 to 154 (fun v wx => v = .int .i64 EE ∧ wr = wx)
        case first =>
          cases lb
          all_goals
            go_wp2_with fail
            go_meet
            exact ⟨congrArg (Value.int .i64) (by rw [HEE.out]; simp), rfl⟩
        case rest =>
        obtain ⟨rfl, rfl⟩ := hcut
        go_upto_region 28 with (fail)
        go_cut [20] from 155 to 170 (fun v wx => ∃ (g : Nat) (c : Int) (A : Option Addr) (n k : Nat), v = .pointer (some ⟨g, 0, none⟩) ∧ wx.cell? ⟨g, 0, none⟩ = some (.int .i64 c) ∧ wx.cell? ⟨g, 1, none⟩ = some (.slice A n k) ∧ (c == 0) = r ∧ Below wr.heap.size wr wx)
        case first =>
          apply wp_region_relA 17 [eqT _, eqT _, eqT _, eqT _, eqT _, eqT _, eqT _, eqT _, eqT _, eqT _, eqT _, eqT _, eqT _, eqT _, eqT _, fretT r, cellF wr.heap.size] (by kernel_rfl) (by kernel_rfl) (by kernel_rfl) rfl
          focus
            refine ⟨?_, ?_⟩
            focus
              unfold opGoal
              rw [if_pos (by kernel_rfl)]
              intro x hb hd K hk
              clear hd
              go_wp2_with fail
              exact hk _ _ rfl trivial (Below.refl _ _)
            rintro _ rfl
            simp only [Act.put, List.setIfInBounds_toArray, List.set_cons_succ, List.set_cons_zero]
            refine ⟨?_, ?_⟩
            focus
              unfold opGoal
              rw [if_pos (by kernel_rfl)]
              intro x hb hd K hk
              clear hd
              go_wp2_with fail
              exact hk _ _ rfl trivial (Below.refl _ _)
            rintro _ rfl
            simp only [Act.put, List.setIfInBounds_toArray, List.set_cons_succ, List.set_cons_zero]
            refine ⟨?_, ?_⟩
            focus
              unfold opGoal
              rw [if_pos (by kernel_rfl)]
              intro x hb hd K hk
              clear hd
              go_wp2_with fail
              exact hk _ _ rfl trivial (Below.refl _ _)
            rintro _ rfl
            simp only [Act.put, List.setIfInBounds_toArray, List.set_cons_succ, List.set_cons_zero]
            refine ⟨?_, ?_⟩
            focus
              unfold opGoal
              rw [if_pos (by kernel_rfl)]
              intro x hb hd K hk
              clear hd
              go_wp2_with fail
              exact hk _ _ rfl trivial (Below.refl _ _)
            rintro _ rfl
            simp only [Act.put, List.setIfInBounds_toArray, List.set_cons_succ, List.set_cons_zero]
            refine ⟨?_, ?_⟩
            focus
              unfold opGoal
              rw [if_pos (by kernel_rfl)]
              intro x hb hd K hk
              clear hd
              go_wp2_with fail
              exact hk _ _ rfl trivial (Below.refl _ _)
            rintro _ rfl
            simp only [Act.put, List.setIfInBounds_toArray, List.set_cons_succ, List.set_cons_zero]
            refine ⟨?_, ?_⟩
            focus
              unfold opGoal
              rw [if_pos (by kernel_rfl)]
              intro x hb hd K hk
              clear hd
              have l0 := cell_keep hb y3
              go_wp2_with fail
              exact hk _ _ rfl trivial (Below.refl _ _)
            rintro _ rfl
            simp only [Act.put, List.setIfInBounds_toArray, List.set_cons_succ, List.set_cons_zero]
            refine ⟨?_, ?_⟩
            focus
              unfold opGoal
              rw [if_pos (by kernel_rfl)]
              intro x hb hd K hk
              clear hd
              go_wp2_with fail
              exact hk _ _ rfl trivial (Below.refl _ _)
            rintro _ rfl
            simp only [Act.put, List.setIfInBounds_toArray, List.set_cons_succ, List.set_cons_zero]
            refine ⟨?_, ?_⟩
            focus
              unfold opGoal
              rw [if_pos (by kernel_rfl)]
              intro x hb hd K hk
              clear hd
              go_wp2_with fail
              exact hk _ _ rfl trivial (Below.refl _ _)
            rintro _ rfl
            simp only [Act.put, List.setIfInBounds_toArray, List.set_cons_succ, List.set_cons_zero]
            refine ⟨?_, ?_⟩
            focus
              unfold opGoal
              rw [if_pos (by kernel_rfl)]
              intro x hb hd K hk
              clear hd
              go_wp2_with fail
              exact hk _ _ rfl trivial (Below.refl _ _)
            rintro _ rfl
            simp only [Act.put, List.setIfInBounds_toArray, List.set_cons_succ, List.set_cons_zero]
            refine ⟨?_, ?_⟩
            focus
              unfold opGoal
              rw [if_pos (by kernel_rfl)]
              intro x hb hd K hk
              clear hd
              go_wp2_with fail
              exact hk _ _ rfl trivial (Below.refl _ _)
            rintro _ rfl
            simp only [Act.put, List.setIfInBounds_toArray, List.set_cons_succ, List.set_cons_zero]
            refine ⟨?_, ?_⟩
            focus
              unfold opGoal
              rw [if_pos (by kernel_rfl)]
              intro x hb hd K hk
              clear hd
              have l0 := cell_keep hb y0
              go_wp2_with fail
              exact hk _ _ rfl trivial (Below.refl _ _)
            rintro _ rfl
            simp only [Act.put, List.setIfInBounds_toArray, List.set_cons_succ, List.set_cons_zero]
            refine ⟨?_, ?_⟩
            focus
              unfold opGoal
              rw [if_pos (by kernel_rfl)]
              intro x hb hd K hk
              clear hd
              go_wp2_with fail
              exact hk _ _ rfl trivial (Below.refl _ _)
            rintro _ rfl
            simp only [Act.put, List.setIfInBounds_toArray, List.set_cons_succ, List.set_cons_zero]
            refine ⟨?_, ?_⟩
            focus
              unfold opGoal
              rw [if_pos (by kernel_rfl)]
              intro x hb hd K hk
              clear hd
              go_wp2_with fail
              exact hk _ _ rfl trivial (Below.refl _ _)
            rintro _ rfl
            simp only [Act.put, List.setIfInBounds_toArray, List.set_cons_succ, List.set_cons_zero]
            refine ⟨?_, ?_⟩
            focus
              unfold opGoal
              rw [if_pos (by kernel_rfl)]
              intro x hb hd K hk
              clear hd
              have l0 := cell_keep hb y2
              go_wp2_with fail
              exact hk _ _ rfl trivial (Below.refl _ _)
            rintro _ rfl
            simp only [Act.put, List.setIfInBounds_toArray, List.set_cons_succ, List.set_cons_zero]
            refine ⟨?_, ?_⟩
            focus
              unfold opGoal
              rw [if_pos (by kernel_rfl)]
              intro x hb hd K hk
              clear hd
              go_wp2_with fail
              refine (Hid.out TK x).mono ?_
              rintro e x' ⟨rfl, hb'⟩
              exact hk _ _ rfl trivial hb'
            rintro _ rfl
            simp only [Act.put, List.setIfInBounds_toArray, List.set_cons_succ, List.set_cons_zero]
            refine ⟨?_, ?_⟩
            focus
              unfold opGoal
              rw [if_pos (by kernel_rfl)]
              intro x hb hd K hk
              clear hd
              go_wp2_with fail
              refine (SK.out x (HRD2.out.below hb)).mono ?_
              rintro e9 w9 ⟨c, A, n, k, rfl, hc, hb9⟩
              exact hk _ _ ⟨c, A, n, k, rfl, hc⟩ trivial hb9
            rintro _ ⟨c9, A9, n9, k9, rfl, hc9⟩
            simp only [Act.put, List.setIfInBounds_toArray, List.set_cons_succ, List.set_cons_zero]
            refine ⟨?_, ?_⟩
            focus
              unfold opGoal
              rw [if_pos (by kernel_rfl)]
              intro x hb hd K hk
              clear hd
              go_wp2_with fail
              exact hk _ _ ⟨_, rfl⟩ ⟨_, rfl, hb.size, Blk.new _ _ _⟩ ((Below.refl _ _).alloc (Nat.le_refl _) _)
            rintro _ ⟨g9, rfl⟩
            simp only [Act.put, List.setIfInBounds_toArray, List.set_cons_succ, List.set_cons_zero]
            intro x hbx hall
            simp only [List.drop_succ_cons, List.drop_zero]
            have hcf : ∃ g, Value.pointer (some ⟨g9, 0, none⟩) = .pointer (some ⟨g, 0, none⟩) ∧ wr.heap.size ≤ g ∧ Blk x g 43 #[.int .i64 0, .slice none 0 0] := hall 16 _ _ rfl rfl
            clear hall
            obtain ⟨g, he, hge, hB⟩ := hcf
            simp only [Value.pointer.injEq, Option.some.injEq, Addr.mk.injEq, and_true] at he
            subst he
            have z0 := hB.cell 0
            have z1 := hB.cell 1
            have q0 := hB.frozen 0
            have q1 := hB.frozen 1
            have hB2 := (hB.set 0 (.int .i64 c9)).set 1 (.slice A9 n9 k9)
            have e0 := hB2.cell 0
            have e1 := hB2.cell 1
            simp only [List.getElem?_toArray, List.getElem?_cons_zero, List.getElem?_cons_succ, List.setIfInBounds_toArray, List.set_cons_succ, List.set_cons_zero] at e0 e1 z0 z1
            have E0 := Lib.hid e0
            have E1 := Lib.hid e1
            have EF := Lib.hid (show Below wr.heap.size wr ((x.setCell ⟨g9, 0, none⟩ (.int .i64 c9)).setCell ⟨g9, 1, none⟩ (.slice A9 n9 k9)) from (hbx.setCell hge _).setCell hge _)
            have HC9 := Lib.hid hc9
            clear e0 e1 hB2 hB hc9 hbx
            go_wp2_with fail
            go_meet
            exact ⟨g9, c9, A9, n9, k9, rfl, E0.out, E1.out, HC9.out, EF.out⟩
        case rest =>
          obtain ⟨g, c, A, n, k, rfl, f0, f1, hc, hb2⟩ := hcut
          have hcs := cell_keep (hbr.trans (hb2.mono hbr.size)) ((HRD1.out.at_ hcl').2 3 _ rfl)
          replace hbr := hbr.trans (hb2.mono hbr.size)
          cases r
          case true =>
            obtain rfl : c = 0 := by simpa using hc
            obtain ⟨hl1, hl2, hl3, hl4⟩ := HR0.out rfl
            have HL1 := Lib.hid hl1
            have HL4 := Lib.hid hl4
            clear hl1 hl4 HR0 HR1
            generalize L[cc].size = sz at *
            obtain ⟨z, rfl⟩ : ∃ z : Nat, sz = z := ⟨sz.toNat, by omega⟩
            simp only [Int.toNat_natCast] at HL1 HL4
            have hz1 : cc + z ≤ i + q := by omega
            have hz2 : 1 ≤ z := by omega
            clear hl2 hl3
            go_wp2_with fail
            go_roundw
            case rel => exact ⟨kk + 1, cc + z, by go_num, by go_num, by omega, by omega, by omega, hbr, HL4, HL1⟩
            case measure => simp [intOf]; omega
          case false =>
            have HZ := Lib.hid (HR1.out rfl)
            have hcn : (c != 0) = true := by rw [bne, hc]; rfl
            have HBK := Lib.hid (HB1.out.below hbr)
            have HBW := Lib.hid (HBW1.out.trans (hbr.mono HBW1.out.size))
            clear HR0 HR1 TK SK hcs hbr hb2 y0 y2 y3 x0 x1 x2 x3 x4
            have hB := HBK.out
            have z0 := hB.cell 0
            have z1 := hB.cell 1
            have q0 := hB.frozen 0
            have q1 := hB.frozen 1
            have hB2 := (hB.set 0 (.int .i64 c)).set 1 (.slice A n k)
            have e0 := hB2.cell 0
            have e1 := hB2.cell 1
            simp only [List.getElem?_toArray, List.getElem?_cons_zero, List.getElem?_cons_succ, List.setIfInBounds_toArray, List.set_cons_succ, List.set_cons_zero] at e0 e1 z0 z1
            have E0 := Lib.hid e0
            have E1 := Lib.hid e1
            have EF := Lib.hid (show Below w.heap.size w ((wc.setCell ⟨g0, 0, none⟩ (.int .i64 c)).setCell ⟨g0, 1, none⟩ (.slice A n k)) from (HBW.out.setCell (Nat.le_of_eq HG0.out) _).setCell (Nat.le_of_eq HG0.out) _)
            clear e0 e1 hB2 hB
            go_wp2_with fail
            rw [← HQQ.out]
            refine bodyPost_ret (v := .agg #[.int .i64 c, .slice A n k]) ?_ rfl ⟨_, _, _, _, rfl, (by rw [HZ.out]; exact hc), EF.out⟩
            have e0 := E0.out
            have e1 := E1.out
            generalize ((wc.setCell ⟨g0, 0, none⟩ (.int .i64 c)).setCell ⟨g0, 1, none⟩ (.slice A n k)) = WF at *
            simp [results, go_sem, e0, e1, Tryd.results45, Tryd.results82, Tryd.results18]
      · obtain rfl : kk = K := by omega
        have HZ := Lib.hid (show lookP L (d + 1) i e word last = none by rw [HLC.out, Nat.sub_self]; rfl)
        clear HLC HPC
        have y2 := cell_keep hbr x2
        go_wp2_with fail
        refine (none_any _).mono ?_
        rintro e1 w1 ⟨v, rfl, ⟨A1, c1, rfl, _, _⟩, hb1⟩
        have HBK := Lib.hid ((HB1.out.below hbr).below hb1)
        have HBW := Lib.hid ((HBW1.out.trans (hbr.mono HBW1.out.size)).trans (hb1.mono (HBW1.out.trans (hbr.mono HBW1.out.size)).size))
        clear x0 x1 x2 x3 x4 hb1
        have hB := HBK.out
        have z0 := hB.cell 0
        have z1 := hB.cell 1
        have q0 := hB.frozen 0
        have q1 := hB.frozen 1
        have hB2 := (hB.set 0 (.int .i64 0)).set 1 (.slice A1 0 c1)
        have e0 := hB2.cell 0
        have e1 := hB2.cell 1
        simp only [List.getElem?_toArray, List.getElem?_cons_zero, List.getElem?_cons_succ, List.setIfInBounds_toArray, List.set_cons_succ, List.set_cons_zero] at e0 e1 z0 z1
        have E0 := Lib.hid e0
        have E1 := Lib.hid e1
        have EF := Lib.hid (show Below w.heap.size w ((w1.setCell ⟨g0, 0, none⟩ (.int .i64 0)).setCell ⟨g0, 1, none⟩ (.slice A1 0 c1)) from (HBW.out.setCell (Nat.le_of_eq HG0.out) _).setCell (Nat.le_of_eq HG0.out) _)
        clear e0 e1 hB2 hB
        go_wp2_with fail
        rw [← HQQ.out]
        refine bodyPost_ret (v := .agg #[.int .i64 0, .slice A1 0 c1]) ?_ rfl ⟨_, _, _, _, rfl, (by rw [HZ.out]; rfl), EF.out⟩
        have e0 := E0.out
        have e1 := E1.out
        generalize ((w1.setCell ⟨g0, 0, none⟩ (.int .i64 0)).setCell ⟨g0, 1, none⟩ (.slice A1 0 c1)) = WF at *
        simp [results, go_sem, e0, e1, Tryd.results45, Tryd.results82, Tryd.results18]
end Go.Proofs.YthmeonimianoeaaDoor
