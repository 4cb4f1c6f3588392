/- FuseFlat: whatever nodes are handed in, the law answers true. Bounds on the lengths. -/
import Derived.Test.YtjhgljfmheopmaaDoorLawFuseOwn
import Derived.Test.YtjhgljfmheopmaaDoorFuseN
import Derived.Test.YtjhgljfmheopmaaDoorRef5C
import Derived.Test.YtjhgljfmheopmaaDoorRef5K
import Derived.Outline
set_option linter.unusedVariables false
set_option linter.unusedSimpArgs false
namespace Go.Proofs.YtjhgljfmheopmaaDoor
open Go.RowKit

theorem KdRd.of5 {w : World} {base n c : Nat} {A : Option Addr} {vs : List Value} {ls : List (List Nd)} (h : w.ownsRow base 25 1 (.slice A n c) n vs) (hn : n = ls.length) (ho : AllRd w vs ls) : KdRd w A ls :=
  ⟨vs, (rd_one h (by rw [hn, ho.1])).1, ho⟩
theorem kids5_tree (v : Value) (u : Tr) (w : World) (h : SlRd w v (flat u)) (hl : (flat u).length ≤ 4000000) : Calls Tryd.prog 32 #[v] w fun e w' => ∃ A c, e = .returned (.slice A u.kids.length c) ∧ KdRd w' A (u.kids.map flat) ∧ Below w.heap.size w w' := by
  refine (kids5_any v (flat u) w h hl).mono ?_
  rintro e w' ⟨A, c, vs, rfl, h1, h2, h3⟩
  rw [kidsL_tree] at h1 h2 ⊢
  exact ⟨A, c, by rw [List.length_map], KdRd.of5 h1 rfl h2, h3⟩
theorem count_take {R : List Nd} {k : Nat} (h : k < R.length) : (R.take (k + 1)).countP isPipe = (R.take k).countP isPipe + (if isPipe R[k] then 1 else 0) := by
  rw [List.take_succ_eq_append_getElem h, List.countP_append]
  simp [List.countP_cons]

set_option maxRecDepth 100000 in
set_option maxHeartbeats 8000000 in
theorem fuseflat_walk (A : Option Addr) (cp : Nat) (L : List Nd) (aN aT' aM : Addr) (w : World) (hrd : RdL w 5 ndc A L) (hc : L.length ≤ cp) (hm : cp ≤ maxLen) (hA : A = none → cp = 0) (hok : ∀ x ∈ L, NdOk x) (hE : ErrW w aN aT' aM) :
    Calls Tryd.prog 9 #[.slice A L.length cp] w fun e w' => e = .returned (.bool true) ∧ Below w.heap.size w w' := by
  have FA := Lib.hid (first20_any aN aT' aM w hE)
  obtain ⟨m, hml⟩ : ∃ m, m = L.length := ⟨_, rfl⟩
  have hsl : SlRd w (.slice A m cp) L := by rw [hml]; exact ⟨A, cp, rfl, hrd, hc, hm, hA, trivial⟩
  rw [← hml] at hc ⊢
  have HM := Lib.hid hml
  have HOK := Lib.hid hok
  clear hml hok hrd hA
  go_enter Tryd.func9, Tryd.ntmps9
  generalize hQQ : bodyPost Tryd.prog Tryd.f9 (fun e w' => e = .returned (.bool true) ∧ Below w.heap.size w w') = QQ
  have HQQ := Lib.hid hQQ
  clear hQQ
  go_wp2_with fail
  refine FA.out.mono ?_
  rintro e w1 ⟨rfl, hb⟩
  replace hsl := hsl.below hb
  replace hE := hE.below hb
  by_cases h120 : 120 < m
  · go_wp2_with fail
    rw [← HQQ.out]
    go_ret
    exact ⟨rfl, hb⟩
  have h120' : decide ((120 : Int) < m) = false := decide_eq_false (by omega)
  have CK := Lib.hid (check_v _ L aN aT' aM w1 (by rw [← HM.out]; omega) HOK.out hsl hE)
  go_wp2_with fail
  refine CK.out.mono ?_
  rintro e w2 ⟨v, rfl, hv, hb2⟩
  replace hsl := hsl.below hb2
  replace hE := hE.below hb2
  replace hb := hb.trans (hb2.mono hb.size)
  clear hb2
  cases hmn : manyB L
  case true =>
    rw [hmn, if_pos rfl] at hv
    subst hv
    clear hmn
    go_wp2_with fail
    rw [← HQQ.out]
    go_ret
    exact ⟨rfl, hb⟩
  case false =>
  rw [hmn, if_neg Bool.noConfusion] at hv
  cases hcp : checkP L with
  | some z =>
    obtain ⟨i, nb⟩ := z
    rw [hcp] at hv
    obtain ⟨g, rfl, _⟩ := hv
    clear hmn hcp
    go_wp2_with fail
    rw [← HQQ.out]
    go_ret
    exact ⟨rfl, hb⟩
  | none =>
  rw [hcp] at hv
  obtain rfl : v = Value.nilIface := hv
  have h0 : L.length ≠ 0 := by
    simp only [manyB, Bool.or_eq_false_iff, beq_eq_false_iff_ne, decide_eq_false_iff_not] at hmn
    omega
  obtain ⟨t, ht1, ht2⟩ := (check_tree L h0).1 hcp
  have htl : (flat t).length ≤ 120 := by rw [ht2, ← HM.out]; omega
  have hfl := fuseT_le t
  have hok2 : OkAny (fuseT t) := ⟨30, false, fuse_ok 30 false t ht1⟩
  have hnd2 := ok_nd hok2 (by omega)
  have PC := Lib.hid (show ∀ v W, SlRd W v L → ErrW W aN aT' aM → Calls Tryd.prog 31 #[v] W (VRet (flat (fuseT t)) W) from fun v W h1 h2 => by
    rw [← ht2] at h1
    exact fpass_tree v t aN aT' aM W ht1 (by omega) (by rw [ht2]; exact HOK.out) h1 h2)
  have PD := Lib.hid (show ∀ v W, SlRd W v (flat (fuseT t)) → ErrW W aN aT' aM → Calls Tryd.prog 31 #[v] W (VRet (flat (fuseT t)) W) from fun v W h1 h2 => by
    have h3 := fpass_tree v (fuseT t) aN aT' aM W (fuse_ok 30 false t ht1) (by omega) hnd2 h1 h2
    rwa [fuse_id _ (fuse_flat t)] at h3)
  have CF := Lib.hid (show ∀ v W, SlRd W v (flat (fuseT t)) → Calls Tryd.prog 26 #[v] W (FRet true W) from fun v W h1 => by
    have h3 := check5_any v (flat (fuseT t)) W h1 (by omega) hnd2
    rwa [fineB_tree (fuse_ok 30 false t ht1) (by omega)] at h3)
  have SM := Lib.hid (show ∀ va vb W, SlRd W va (flat (fuseT t)) → SlRd W vb (flat (fuseT t)) → Calls Tryd.prog 33 #[va, vb] W (Ret W (.bool true)) from fun va vb W h1 h2 => by
    have h3 := same_v va vb _ _ W h1 h2 (by omega) (by omega)
    rw [(sameL_iff _ _).2 rfl] at h3
    exact h3)
  have P1 := Lib.hid (show ∀ v W, SlRd W v (flat (fuseT t)) → Calls Tryd.prog 34 #[v] W (Ret W (.int .i64 ((flat (fuseT t)).countP isPipe : Nat))) from fun v W h1 => pipes_v v _ W h1 (by omega))
  have P2 := Lib.hid (show ∀ v W, SlRd W v L → Calls Tryd.prog 34 #[v] W (Ret W (.int .i64 (L.countP isPipe : Nat))) from fun v W h1 => pipes_v v _ W h1 (by rw [← HM.out]; omega))
  have PL := Lib.hid (show (flat (fuseT t)).countP isPipe ≤ L.countP isPipe from by rw [← ht2]; exact pipes_le t)
  have PA := Lib.hid (fun k (h : k < (flat (fuseT t)).length) => place_at (fun u => flatP u = true) (fun u hu v hv => (flatP_kids hu v hv).2) (fuse_flat t) h)
  have PX := Lib.hid (fun (u : Tr) (hu : flatP u = true) (hk : u.kind = 32) => fun v hv => (flatP_kids hu v hv).1)
  generalize flat (fuseT t) = R at *
  obtain ⟨r, hr⟩ : ∃ r, r = R.length := ⟨_, rfl⟩
  have hr120 : r ≤ 120 := by rw [hr]; omega
  have HR := Lib.hid hr
  clear hr hmn hcp h0 ht1 ht2 htl hfl hok2 hnd2 CK FA HOK
  go_wp2_with fail
  refine (PC.out _ _ hsl hE).mono ?_
  rintro e w4 ⟨A4, n4, c4, rfl, ho4, hb4⟩
  have hn4 : n4 = r := by
    obtain ⟨_, _, he, _⟩ := id ho4
    simp only [Value.slice.injEq] at he
    rw [HR.out]
    exact he.2.1
  subst n4
  have s4 := ho4.rd
  replace hsl := hsl.below hb4
  replace hE := hE.below hb4
  replace hb := hb.trans (hb4.mono hb.size)
  clear hb4 ho4 PC
  go_wp2_with fail
  refine (CF.out _ _ s4).mono ?_
  rintro e w5 ⟨c5, A5, n5, k5, rfl, h5, hb5⟩
  obtain rfl : c5 = 0 := by simpa using h5
  replace s4 := s4.below hb5
  replace hsl := hsl.below hb5
  replace hE := hE.below hb5
  replace hb := hb.trans (hb5.mono hb.size)
  clear hb5 h5 CF
  obtain ⟨A4', c4', he, hrd4, hc4, hm4, hA4, _⟩ := id s4
  simp only [Value.slice.injEq] at he
  obtain ⟨rfl, hx4, rfl⟩ := he
  clear hx4
  rw [← HR.out] at hc4
  have hfd : ∀ W : World, (Instr.field 38 (.agg #[.int .i64 0, .slice A5 n5 k5]) 0).run Tryd.prog W = .ok (.int .i64 0) W := fun _ => by kernel_rfl
  go_wp2_with fail
  clear hfd
  go_loopw [5, 6] (fun nv iv wr => ∃ (n k : Nat), nv = .int .i64 n ∧ iv = .int .i64 k ∧ n ≤ k ∧ k ≤ r ∧ Below w5.heap.size w5 wr ∧ Hid (n = (R.take k).countP isPipe)) (fun _ iv _ => r - (intOf iv).toNat)
  case atStart => exact ⟨0, 0, rfl, rfl, Nat.le_refl _, Nat.zero_le _, Below.refl _ _, Lib.hid (by simp)⟩
  case round =>
    obtain ⟨n, k, rfl, rfl, hnk, hkr, hbr, HN⟩ := hrel
    by_cases hlt : k < r
    · have hlt' : k < R.length := by rw [← HR.out]; exact hlt
      obtain ⟨u, hu, hu1, hu2, hu3, hu4⟩ := PA.out k hlt'
      obtain ⟨b, o, rfl, hbl⟩ := hrd4.addr (by omega)
      have c0 := cell_keep hbr ((hrd4.at_ hlt').2 0 _ rfl)
      have c3 := cell_keep hbr ((hrd4.at_ hlt').2 3 _ rfl)
      rw [hu1] at c0
      rw [hu2] at c3
      simp only [Nat.add_zero] at c0
      have HCT := Lib.hid (show (R.take (k + 1)).countP isPipe = n + (if u.kind == 32 then 1 else 0) by rw [count_take hlt', isPipe, hu1, ← HN.out])
      rw [← HR.out] at hu3
      have hql : (flat u).length ≤ 4000000 := by omega
      obtain ⟨q, hq⟩ : ∃ q, q = (flat u).length := ⟨_, rfl⟩
      have hu4' : (R.drop k).take q = flat u := by rw [hq]; exact hu4
      have hsu : SlRd wr (.slice (some ⟨b, o + k * 5, none⟩) q (c4 - k)) (flat u) := by
        refine ⟨some ⟨b, o + k * 5, none⟩, c4 - k, by rw [hq], ?_, by omega, by unfold maxLen at hm4 ⊢; omega, (fun h => by cases h), trivial⟩
        rw [← hu4']
        exact RdL.take (RdL.drop (hrd4.below hbr) k addr_drop) q
      have KU := Lib.hid (kids5_tree _ u wr hsu hql)
      have hq1 := flat_pos u
      rw [← hq] at c3 hu3 hq1
      have HPX := Lib.hid (fun h => PX.out u hu h)
      have hkl := kids_len u
      have HKL := Lib.hid (show u.kids.length ≤ 120 by omega)
      clear hu hu1 hu2 hu4 hu4' hsu hql hq hlt' hkl
      cases hkd : (u.kind == 32)
      case false =>
        have hkd2 : (u.kind != 32) = true := by rw [bne, hkd]; rfl
        rw [hkd] at HCT
        have HCT2 := Lib.hid HCT.out
        clear HCT HPX KU
        go_wp2_with fail
        go_roundw
        case rel => exact ⟨n, k + 1, rfl, by go_num, by omega, by omega, hbr, Lib.hid (by rw [HCT2.out]; rfl)⟩
        case measure => simp [intOf]; omega
      case true =>
        have hkd3 : u.kind = 32 := by simpa using hkd
        have hkd2 : (u.kind != 32) = false := by rw [bne, hkd]; rfl
        rw [hkd] at HCT
        have HCT2 := Lib.hid HCT.out
        have HPY := Lib.hid (HPX.out hkd3)
        clear HCT HPX
        go_wp2_with fail
        refine KU.out.mono ?_
        rintro e w6 ⟨A6, c6, rfl, hk6, hb6⟩
        clear KU
        obtain ⟨K, hK⟩ : ∃ K, K = u.kids.length := ⟨_, rfl⟩
        have hK120 : K ≤ 120 := by rw [hK]; exact HKL.out
        rw [← hK]
        have HK := Lib.hid hK
        clear hK
        have hb56 := hbr.trans (hb6.mono hbr.size)
        clear hbr hb6 c0 c3
        go_wp2_with fail
        go_loopw [8] (fun jv ws => ∃ j : Nat, jv = .int .i64 j ∧ j ≤ K ∧ ws = w6) (fun jv _ => K - (intOf jv).toNat)
        case atStart => exact ⟨0, rfl, Nat.zero_le _, rfl⟩
        case round =>
          obtain ⟨j, rfl, hjK, rfl⟩ := hrel
          by_cases hjl : j < K
          · have hjl' : j < (u.kids.map flat).length := by rw [List.length_map, ← HK.out]; exact hjl
            have hjl2 : j < u.kids.length := by rw [← HK.out]; exact hjl
            obtain ⟨bk, ok, vk, rfl, hbk, hck, hsk⟩ := hk6.at_ hjl'
            rw [List.getElem_map] at hsk
            obtain ⟨Av, cv, rfl, hrdv, hcv, hmv, _⟩ := hsk
            have hpos := flat_pos u.kids[j]
            obtain ⟨bv, ov, rfl, hbv⟩ := hrdv.addr hpos
            have hcc := (hrdv.at_ hpos).2 0 _ rfl
            rw [flat_get0] at hcc
            simp only [Nat.zero_mul, Nat.add_zero] at hcc
            have hne := HPY.out u.kids[j] (List.getElem_mem _)
            rw [hkd] at hne
            simp only [Bool.true_and] at hne
            generalize (flat u.kids[j]).length = lv at *
            generalize u.kids[j].kind = kv at *
            clear hrdv hjl' hjl2 hk6
            go_wp2_with fail
            go_roundw
            case rel => exact ⟨j + 1, by go_num, by omega, trivial⟩
            case measure => simp [intOf]; omega
          · obtain rfl : j = K := by omega
            go_wp2_with fail
            go_roundw
            case rel => exact ⟨n + 1, k + 1, by go_num, by go_num, by omega, by omega, hb56, Lib.hid (by rw [HCT2.out]; rfl)⟩
            case measure => simp [intOf]; omega
    · obtain rfl : k = r := by omega
      have HN2 := Lib.hid (show n = R.countP isPipe by rw [HN.out, HR.out, List.take_length])
      have PL2 := Lib.hid (show n ≤ L.countP isPipe by rw [HN2.out]; exact PL.out)
      have P1' := Lib.hid (show ∀ v W, SlRd W v R → Calls Tryd.prog 34 #[v] W (Ret W (.int .i64 n)) from by rw [HN2.out]; exact P1.out)
      clear HN HN2 PL P1 PA PX
      generalize L.countP isPipe = NL at *
      have hNL := PL2.out
      have hbw := hb.trans (hbr.mono hb.size)
      have s4' := s4.below hbr
      have hsl' := hsl.below hbr
      have hE' := hE.below hbr
      clear hrd4 hbr
      go_wp2_with fail
      refine (PD.out _ _ s4' hE').mono ?_
      rintro e w7 ⟨A7, n7, c7, rfl, o7, hb7⟩
      have s7 := o7.rd
      replace s4' := s4'.below hb7
      replace hsl' := hsl'.below hb7
      replace hbw := hbw.trans (hb7.mono hbw.size)
      clear o7 hb7
      go_wp2_with fail
      refine (SM.out _ _ _ s7 s4').mono ?_
      rintro e w8 ⟨rfl, hb8⟩
      replace s4' := s4'.below hb8
      replace hsl' := hsl'.below hb8
      replace hbw := hbw.trans (hb8.mono hbw.size)
      clear hb8
      go_wp2_with fail
      refine (P1'.out _ _ s4').mono ?_
      rintro e w9 ⟨rfl, hb9⟩
      replace hsl' := hsl'.below hb9
      replace hbw := hbw.trans (hb9.mono hbw.size)
      clear hb9
      go_wp2_with fail
      refine (P2.out _ _ hsl').mono ?_
      rintro e w10 ⟨rfl, hb10⟩
      replace hbw := hbw.trans (hb10.mono hbw.size)
      go_wp2_with fail
      rw [← HQQ.out]
      go_ret
      exact ⟨name_ret (by first | (simp; done) | (simp; omega)), hbw⟩

theorem fuseflat_upto (A : Option Addr) (cp : Nat) (L : List Nd) (aN aT' aM : Addr) (w : World) (hrd : RdL w 5 ndc A L) (hc : L.length ≤ cp) (hm : cp ≤ maxLen) (hA : A = none → cp = 0) (hi : ∀ y ∈ L, NdIn y) (hb : L.length ≤ 1048576 ∧ ∀ y ∈ L, y.s.length ≤ 1048576) (hE : ErrW w aN aT' aM) :
    Calls Tryd.prog 9 #[.slice A L.length cp] w fun e w' => e = .returned (.bool true) ∧ Below w.heap.size w w' :=
  fuseflat_walk A cp L aN aT' aM w hrd hc hm hA (ndok_of hi hb.2) hE
end Go.Proofs.YtjhgljfmheopmaaDoor
