/- The walks over consts.whole, consts.Pass, consts.Word. Bounds on the lengths. -/
import Derived.Test.YtpogngdddendiaaDoorConW2
import Derived.Test.YtpogngdddendiaaDoorConW5
import Derived.Test.YtpogngdddendiaaDoorConW7
import Derived.Test.YtpogngdddendiaaDoorNodesW
set_option linter.unusedVariables false
set_option linter.unusedSimpArgs false
namespace Go.Proofs.YtpogngdddendiaaDoor
open Go.RowKit

theorem cset_mid (P : List Tr) (x y : Tr) (r : List Tr) : (P ++ x :: r).set P.length y = P ++ y :: r := by
  induction P with
  | nil => rfl
  | cons z P ih => simp
theorem cstep (ks : List Tr) (k : Nat) (h : k < ks.length) : (constTs (ks.take k) ++ ks.drop k).set k (constT ks[k]) = constTs (ks.take (k + 1)) ++ ks.drop (k + 1) := by
  have hl : (constTs (ks.take k)).length = k := by rw [constTs_map, List.length_map, List.length_take]; omega
  rw [List.drop_eq_getElem_cons h]
  have h2 := cset_mid (constTs (ks.take k)) ks[k] (constT ks[k]) (ks.drop (k + 1))
  rw [hl] at h2
  rw [h2, List.take_succ_eq_append_getElem h, constTs_map, constTs_map, List.map_append]
  simp
theorem cget (ks : List Tr) (k : Nat) (h : k < ks.length) : ((constTs (ks.take k) ++ ks.drop k).map flat)[k]? = some (flat ks[k]) := by
  have hl : (constTs (ks.take k)).length = k := by rw [constTs_map, List.length_map, List.length_take]; omega
  rw [List.getElem?_map, List.getElem?_append_right (by omega), hl, Nat.sub_self, List.drop_eq_getElem_cons h]
  rfl
theorem consts_len (ks : List Tr) : (constTs ks).length = ks.length := by rw [constTs_map, List.length_map]
/-- What a tree that may be hands on to the walk. -/
theorem kids_any_ok {t : Tr} (h : OkAny t) : ∀ u ∈ t.kids, OkAny u := okAny_kids t h
theorem okAny_const {t : Tr} (h : OkAny t) : (flat (constT t)).length ≤ (flat t).length := by
  obtain ⟨d, w, h⟩ := h
  exact (const_spec d w t h).2.2
/-- A word's children once passed. -/
theorem wd_consts {kd n : Int} {s : List UInt8} {ks : List Tr} (h : OkAny (.mk kd n s ks)) (h1 : 3 ≤ kd) (h2 : kd ≤ 11) : ∃ d, (∀ t ∈ constTs ks, WdT d t) ∧ (kd ≠ 3 → constTs ks ≠ []) ∧ (5 ≤ kd → ∃ k, constTs ks = [k]) := by
  obtain ⟨d, w, h⟩ := h
  cases d with
  | zero => rw [okT] at h; cases h
  | succ d =>
    obtain ⟨_, a, b, c⟩ := words_kids h h1 h2
    refine ⟨d, fun t ht => ?_, fun h0 he => ?_, fun h0 => ?_⟩
    · rw [constTs_map] at ht
      obtain ⟨u, hu, rfl⟩ := List.mem_map.1 ht
      exact (const_spec d true u (a u hu)).1
    · rw [constTs_map] at he
      exact b h0 (List.map_eq_nil_iff.1 he)
    · obtain ⟨k, rfl⟩ := c h0
      exact ⟨constT k, by rw [constTs_map]; rfl⟩
theorem wd_lit {d : Nat} : ∀ t, WdT d t → isLit t = true → t.str.length ≤ 2000 := fun t h hl => (ok_lit h hl).2.1

set_option maxRecDepth 100000 in
set_option maxHeartbeats 16000000 in
theorem cwhole_any : ∀ (N : Nat) (t : Tr) (v : Value) (w : World), (flat t).length ≤ N → N ≤ 1000000 → OkAny t → SlRd w v (flat t) → Calls Tryd.prog 110 #[v] w (VRet (flat (constT t)) w) := by
  intro N
  induction N with
  | zero => intro t v w h _ _; have := flat_pos t; omega
  | succ N ih =>
  intro t v w hN hN2 har hv
  cases t with
  | mk kd n s ks =>
  rw [flat_size] at hN
  have hlk := len_flatAll ks
  have KC := Lib.hid (show ∀ W, SlRd W v (flat (.mk kd n s ks)) → Calls Tryd.prog 64 #[v] W (KidsRet (ks.map flat) W) from fun W h => by
    rw [← kidsL_flat kd n s ks]
    exact kids_any v _ W h (by rw [flat_size]; omega))
  have HV := Lib.hid hv
  obtain ⟨A, cp, rfl, hrd, hc, hm, hA, hsp⟩ := hv
  have h0 : 0 < (flat (.mk kd n s ks)).length := flat_pos _
  obtain ⟨b, o, rfl, hbl⟩ := hrd.addr h0
  have hx := hrd.at_ h0
  have hhead : (flat (.mk kd n s ks))[0] = ⟨kd, n, ks.length, ((1 + (flatAll ks).length : Nat) : Int), s⟩ := by simp [flat_mk]
  rw [hhead] at hx
  have c0 := hx.2 0 _ rfl
  have c1 := hx.2 1 _ rfl
  have c4 := hx.2 4 _ rfl
  simp only [Nat.zero_mul, Nat.add_zero] at c0 c1 c4
  clear hx hhead
  obtain ⟨m, hml⟩ : ∃ m, m = (flat (.mk kd n s ks)).length := ⟨_, rfl⟩
  rw [← hml] at KC hc h0 ⊢
  have HM := Lib.hid hml
  have HIH := Lib.hid ih
  have HAR := Lib.hid har
  clear hml hrd hA hsp hm ih har
  go_enter Tryd.func110, Tryd.ntmps110
  go_wp2_with fail
  refine (KC.out _ (by rw [← HM.out] at HV; exact HV.out)).mono ?_
  rintro e w1 ⟨A1, cp1, vs, rfl, hown1, hall1, hb1⟩
  rw [List.length_map] at hown1 ⊢
  go_wp2_with fail
  go_loopw [11] (fun j wr => ∃ (k : Nat) (us : List Value), k ≤ ks.length ∧ j = .int .i64 k ∧
      wr.ownsRow w.heap.size 22 1 (.slice A1 ks.length cp1) ks.length us ∧ OwnAll wr w.heap.size us ((constTs (ks.take k) ++ ks.drop k).map flat) ∧ Below w.heap.size w wr) (fun j _ => ks.length - (intOf j).toNat)
  case atStart => exact ⟨0, vs, Nat.zero_le _, rfl, hown1, by rw [List.take_zero, constTs, List.drop_zero]; exact hall1, hb1⟩
  case round =>
    clear hown1 hall1
    obtain ⟨k, us, hk, rfl, hown, hall, hb⟩ := hrel
    by_cases hlt : k < ks.length
    · have hget := cget ks k hlt
      have hle := flatAll_mem_le ks k hlt
      have hart := okAny_kids _ HAR.out ks[k] (List.getElem_mem _)
      have HST := Lib.hid (cstep ks k hlt)
      obtain ⟨g, rfl⟩ := own_addr' hown (by omega)
      have hulen : us.length = ks.length := by simpa using hown.1
      have hku : k < us.length := by omega
      have hcell := hown.cellAt k (by omega)
      rw [List.getElem?_eq_getElem hku] at hcell
      obtain ⟨hil, hgi⟩ := List.getElem?_eq_some_iff.1 hget
      have hsk := hall.2 k hil us[k] (List.getElem?_eq_getElem hku)
      rw [hgi] at hsk
      obtain ⟨Ak, ckk, hek, _⟩ := own_form hsk
      rw [hek] at hcell hsk
      have hsr := SlRd.of_own hsk rfl
      obtain ⟨t, ht⟩ : ∃ t, t = ks[k] := ⟨_, rfl⟩
      rw [← ht] at hle hart HST hcell hsk hsr
      have IH := Lib.hid (HIH.out t _ wr (by omega) (by omega) hart hsr)
      generalize (flat t).length = nk at *
      have HHK := Lib.hid hek
      clear hek hget hart hil hgi hsk hsr ht
      go_wp2_with fail
      refine IH.out.mono ?_
      rintro e w2 ⟨A2, n2, c2, rfl, ho2, hb2⟩
      have hown2 := own_below hown hb2
      have hall2 := hall.below hb2
      have hb12 := hb.trans (hb2.mono hb.size)
      have hg : w.heap.size ≤ g := (hown.lt g rfl).1
      obtain ⟨cur, hcur⟩ : ∃ cur, Blk w2 g 22 cur := by
        rcases hown2.2 with ⟨h', _⟩ | ⟨g', cap', cur', h', hb', hg', _⟩
        · simp at h'
        · simp only [Value.slice.injEq, Option.some.injEq, Addr.mk.injEq, and_true, true_and] at h'
          obtain ⟨rfl, rfl⟩ := h'
          exact ⟨_, hg'⟩
      have z0 := hown2.cellAt k (by omega)
      rw [List.getElem?_eq_getElem hku] at z0
      have q0 := hown2.frozenAt k
      have HOW := Lib.hid hown2
      have HAL := Lib.hid hall2
      have HO2 := Lib.hid (show OwnAll w2 w.heap.size [.slice A2 n2 c2] [flat (constT t)] from OwnAll.one ((ho2.mono hb.size).own'))
      have HCU := Lib.hid hcur
      generalize us[k] = uk at *
      clear hown hall hown2 hall2 ho2 hcell IH hcur hku HHK
      go_wp2_with fail
      go_roundw
      case rel =>
        have hoo : Others [22] w2 (w2.setCell ⟨g, k, none⟩ (.slice A2 n2 c2)) := Others.setCell (show w2.heap[(⟨g, k, none⟩ : Addr).block]? = some (.cells cur 22 (0, 0)) from HCU.out) (by simp) _
        refine ⟨k + 1, us.set k (.slice A2 n2 c2), by omega, by go_num, (HOW.out.stored k _).1, ?_, hb12.setCell hg _⟩
        have h1 := (HAL.out.others hoo (by decide)).set (k := k) ((HO2.out.others hoo (by decide)).2 0 (by simp) _ rfl)
        simp only [List.getElem_cons_zero] at h1
        rw [← List.map_set, HST.out] at h1
        exact h1
      case measure => simp [intOf]; omega
    · obtain rfl : k = ks.length := by omega
      rw [List.take_length, List.drop_length, List.append_nil] at hall
      have hkd := KdRd.of_own hown (by rw [List.length_map, consts_len]) hall
      have HRO := Lib.hid (RowO.of_own hown hall (consts_len ks).symm)
      have w0 := cell_keep hb c0
      have w1' := cell_keep hb c1
      have w4 := cell_keep hb c4
      have HW := Lib.hid (constT_mk kd n s ks)
      have hcs := consts_size ks (fun t ht => okAny_const (okAny_kids _ HAR.out t ht))
      rw [← constTs_map] at hcs
      have hks : sizeL ks = (flatAll ks).length := rfl
      have hszc : sizeL (constTs ks) ≤ 1000000 := by omega
      have NW := Lib.hid (show ∀ W, KdRd W A1 ((constTs ks).map flat) → Calls Tryd.prog 45 #[.int .i64 kd, .int .i64 n, .string ⟨s.toArray⟩, .slice A1 ks.length cp1] W (VRet (flat (.mk kd n s (constTs ks))) W) from fun W h => newT_any kd n s A1 cp1 ks.length (constTs ks) W h (consts_len ks).symm (by unfold sizeL at hszc; omega))
      have HWD := Lib.hid (fun h1 h2 => wd_consts HAR.out h1 h2)
      clear c0 c1 c4 hown hall hlt hk hcs hks
      go_upto_region 7 with (fail)
      go_cut [6] (fun v wx => OwnNd wx wr.heap.size v (flat (.mk kd n s (constTs ks))) ∧ Below wr.heap.size wr wx)
      case first =>
        apply wp_region_rel [eqT _, eqT _, eqT _, eqT _, eqT _, eqT _, eqT _, eqT _, eqT _, eqT _, eqT _, eqT _, eqT _, nodesT wr.heap.size (flat (.mk kd n s (constTs ks))), nodesT wr.heap.size (flat (.mk kd n s (constTs ks)))] (by kernel_rfl) (by kernel_rfl) rfl
        focus
          refine ⟨?_, ?_⟩
          focus
            unfold opGoal
            rw [if_pos (by kernel_rfl)]
            intro x hb hd K hk
            clear hd
            go_wp2_with fail
            exact hk _ _ rfl trivial (Below.refl _ _)
          rintro _ rfl
          simp only [Act.put, List.setIfInBounds_toArray, List.set_cons_succ, List.set_cons_zero]
          refine ⟨?_, ?_⟩
          focus
            unfold opGoal
            rw [if_pos (by kernel_rfl)]
            intro x hb hd K hk
            clear hd
            go_wp2_with fail
            exact hk _ _ rfl trivial (Below.refl _ _)
          rintro _ rfl
          simp only [Act.put, List.setIfInBounds_toArray, List.set_cons_succ, List.set_cons_zero]
          refine ⟨?_, ?_⟩
          focus
            unfold opGoal
            rw [if_pos (by kernel_rfl)]
            intro x hb hd K hk
            clear hd
            go_wp2_with fail
            exact hk _ _ rfl trivial (Below.refl _ _)
          rintro _ rfl
          simp only [Act.put, List.setIfInBounds_toArray, List.set_cons_succ, List.set_cons_zero]
          refine ⟨?_, ?_⟩
          focus
            unfold opGoal
            rw [if_pos (by kernel_rfl)]
            intro x hb hd K hk
            clear hd
            have l0 := cell_keep hb w0
            go_wp2_with fail
            exact hk _ _ rfl trivial (Below.refl _ _)
          rintro _ rfl
          simp only [Act.put, List.setIfInBounds_toArray, List.set_cons_succ, List.set_cons_zero]
          refine ⟨?_, ?_⟩
          focus
            unfold opGoal
            rw [if_pos (by kernel_rfl)]
            intro x hb hd K hk
            clear hd
            go_wp2_with fail
            exact hk _ _ rfl trivial (Below.refl _ _)
          rintro _ rfl
          simp only [Act.put, List.setIfInBounds_toArray, List.set_cons_succ, List.set_cons_zero]
          refine ⟨?_, ?_⟩
          focus
            unfold opGoal
            rw [if_pos (by kernel_rfl)]
            intro x hb hd K hk
            clear hd
            go_wp2_with fail
            exact hk _ _ rfl trivial (Below.refl _ _)
          rintro _ rfl
          simp only [Act.put, List.setIfInBounds_toArray, List.set_cons_succ, List.set_cons_zero]
          refine ⟨?_, ?_⟩
          focus
            unfold opGoal
            rw [if_pos (by kernel_rfl)]
            intro x hb hd K hk
            clear hd
            go_wp2_with fail
            exact hk _ _ rfl trivial (Below.refl _ _)
          rintro _ rfl
          simp only [Act.put, List.setIfInBounds_toArray, List.set_cons_succ, List.set_cons_zero]
          refine ⟨?_, ?_⟩
          focus
            unfold opGoal
            rw [if_pos (by kernel_rfl)]
            intro x hb hd K hk
            clear hd
            have l0 := cell_keep hb w1'
            go_wp2_with fail
            exact hk _ _ rfl trivial (Below.refl _ _)
          rintro _ rfl
          simp only [Act.put, List.setIfInBounds_toArray, List.set_cons_succ, List.set_cons_zero]
          refine ⟨?_, ?_⟩
          focus
            unfold opGoal
            rw [if_pos (by kernel_rfl)]
            intro x hb hd K hk
            clear hd
            go_wp2_with fail
            exact hk _ _ rfl trivial (Below.refl _ _)
          rintro _ rfl
          simp only [Act.put, List.setIfInBounds_toArray, List.set_cons_succ, List.set_cons_zero]
          refine ⟨?_, ?_⟩
          focus
            unfold opGoal
            rw [if_pos (by kernel_rfl)]
            intro x hb hd K hk
            clear hd
            go_wp2_with fail
            exact hk _ _ rfl trivial (Below.refl _ _)
          rintro _ rfl
          simp only [Act.put, List.setIfInBounds_toArray, List.set_cons_succ, List.set_cons_zero]
          refine ⟨?_, ?_⟩
          focus
            unfold opGoal
            rw [if_pos (by kernel_rfl)]
            intro x hb hd K hk
            clear hd
            go_wp2_with fail
            exact hk _ _ rfl trivial (Below.refl _ _)
          rintro _ rfl
          simp only [Act.put, List.setIfInBounds_toArray, List.set_cons_succ, List.set_cons_zero]
          refine ⟨?_, ?_⟩
          focus
            unfold opGoal
            rw [if_pos (by kernel_rfl)]
            intro x hb hd K hk
            clear hd
            have l0 := cell_keep hb w4
            go_wp2_with fail
            exact hk _ _ rfl trivial (Below.refl _ _)
          rintro _ rfl
          simp only [Act.put, List.setIfInBounds_toArray, List.set_cons_succ, List.set_cons_zero]
          refine ⟨?_, ?_⟩
          focus
            unfold opGoal
            rw [if_pos (by kernel_rfl)]
            intro x hb hd K hk
            clear hd
            go_wp2_with fail
            exact hk _ _ rfl trivial (Below.refl _ _)
          rintro _ rfl
          simp only [Act.put, List.setIfInBounds_toArray, List.set_cons_succ, List.set_cons_zero]
          refine ⟨?_, ?_⟩
          focus
            unfold opGoal
            rw [if_pos (by kernel_rfl)]
            intro x hb hd K hk
            clear hd
            go_wp2_with fail
            refine (NW.out x (hkd.below hb)).mono ?_
            rintro e9 w9 ⟨A9, n9, c9, rfl, hv, hb9⟩
            exact hk _ _ ⟨_, _, _, rfl⟩ (hv.mono hb.size) hb9
          rintro _ ⟨A8, n8, c8, rfl⟩
          simp only [Act.put, List.setIfInBounds_toArray, List.set_cons_succ, List.set_cons_zero]
          refine ⟨?_, ?_⟩
          focus
            unfold opGoal
            rw [if_pos (by kernel_rfl)]
            intro x hb hd K hk
            have hv := hd _ (List.mem_cons_self ..) rfl _ _ rfl rfl
            clear hd
            go_wp2_with fail
            exact hk _ _ ⟨_, _, _, rfl⟩ hv (Below.refl _ _)
          rintro _ ⟨A7, n7, c7, rfl⟩
          simp only [Act.put, List.setIfInBounds_toArray, List.set_cons_succ, List.set_cons_zero]
          intro x hb hall
          have hv : OwnNd x wr.heap.size (.slice A7 n7 c7) (flat (.mk kd n s (constTs ks))) := hall 14 _ _ rfl rfl
          clear hall
          go_wp2_with fail
          go_meet
          exact ⟨hv, hb⟩
      case rest =>
      obtain ⟨hv, hbx⟩ := hcut
      obtain ⟨A9, c9, rfl, _⟩ := id hv
      have d0 := cell_keep hbx w0
      have hbw := hb.trans (hbx.mono hb.size)
      have HX := Lib.hid (hv.mono hb.size)
      replace HRO := Lib.hid (HRO.out.below hbx)
      obtain ⟨n9, hn9⟩ : ∃ n9, n9 = (flat (.mk kd n s (constTs ks))).length := ⟨_, rfl⟩
      rw [← hn9] at HX ⊢
      generalize ks.length = kl at *
      have HBW := Lib.hid hbw.size
      clear hkd NW w0 w1' w4 hv hbx hb hn9
      by_cases hr : 3 ≤ kd ∧ kd ≤ 11
      · have hc : kd = 4 ∨ kd = 3 ∨ kd = 9 ∨ kd = 10 ∨ kd = 11 ∨ kd = 8 ∨ kd = 7 ∨ kd = 6 ∨ kd = 5 := by omega
        clear hr
        rcases hc with rfl | rfl | rfl | rfl | rfl | rfl | rfl | rfl | rfl
        · obtain ⟨d, g1, g2, g3⟩ := HWD.out (by decide) (by decide)
          have JC := Lib.hid (cjoin_any (WdT d) (wd_opens d) wd_lit (fun x y hx hy hf => merged_ok hx hy hf) w.heap.size A1 kl cp1 (constTs ks) _ HBW.out hszc (g2 (by decide)) g1 HRO.out)
          clear g1 g2 g3 HWD
          go_wp2_with fail
          refine JC.out.mono ?_
          rintro e w9 ⟨A9, n9, c9, rfl, o9, hb9⟩
          have O9 := Lib.hid o9
          have hbz := hbw.trans (hb9.mono hbw.size)
          clear o9
          go_wp2_with fail
          go_ret
          exact ⟨A9, n9, c9, rfl, by rw [HW.out]; exact O9.out, hbz⟩
        · obtain ⟨d, g1, g2, g3⟩ := HWD.out (by decide) (by decide)
          have JC := Lib.hid (ccat_any (WdT d) (wd_opens d) w.heap.size A1 kl cp1 (constTs ks) _ HBW.out hszc g1 HRO.out)
          clear g1 g2 g3 HWD
          go_wp2_with fail
          refine JC.out.mono ?_
          rintro e w9 ⟨A9, n9, c9, rfl, o9, hb9⟩
          have O9 := Lib.hid o9
          have hbz := hbw.trans (hb9.mono hbw.size)
          clear o9
          go_wp2_with fail
          go_ret
          exact ⟨A9, n9, c9, rfl, by rw [HW.out]; exact O9.out, hbz⟩
        · obtain ⟨d, g1, g2, g3⟩ := HWD.out (by decide) (by decide)
          obtain ⟨k0, hk0⟩ := g3 (by decide)
          have hwk := g1 k0 (by rw [hk0]; exact List.mem_cons_self ..)
          have hkid := wd_lit k0 hwk
          have HE := Lib.hid (show constK 9 n s (constTs ks) = oneK (.mk 9 n s (constTs ks)) k0 by rw [hk0]; rfl)
          have hrk := HRO.out
          rw [hk0] at hrk
          obtain ⟨b4, o4, A4, n4, c4, rfl, -, cc4, own4⟩ := hrk.at_ (k := 0) (by simp)
          simp only [List.getElem_cons_zero, Nat.add_zero] at cc4 own4
          have hkl : 0 < kl := by have := hrk.len; simp at this; omega
          have JC := Lib.hid ((cone_any w.heap.size (.mk 9 n s (constTs ks)) k0 A9 A4 n9 c9 n4 c4 _ HBW.out (.inl rfl) HX.out own4))
          replace HW := Lib.hid (HW.out.trans HE.out)
          clear g1 g2 g3 HWD hwk hkid hrk own4 hk0
          go_wp2_with fail
          refine JC.out.mono ?_
          rintro e w9 ⟨A9, n9, c9, rfl, o9, hb9⟩
          have O9 := Lib.hid o9
          have hbz := hbw.trans (hb9.mono hbw.size)
          clear o9
          go_wp2_with fail
          go_ret
          exact ⟨A9, n9, c9, rfl, by rw [HW.out]; exact O9.out, hbz⟩
        · obtain ⟨d, g1, g2, g3⟩ := HWD.out (by decide) (by decide)
          obtain ⟨k0, hk0⟩ := g3 (by decide)
          have hwk := g1 k0 (by rw [hk0]; exact List.mem_cons_self ..)
          have hkid := wd_lit k0 hwk
          have HE := Lib.hid (show constK 10 n s (constTs ks) = oneK (.mk 10 n s (constTs ks)) k0 by rw [hk0]; rfl)
          have hrk := HRO.out
          rw [hk0] at hrk
          obtain ⟨b4, o4, A4, n4, c4, rfl, -, cc4, own4⟩ := hrk.at_ (k := 0) (by simp)
          simp only [List.getElem_cons_zero, Nat.add_zero] at cc4 own4
          have hkl : 0 < kl := by have := hrk.len; simp at this; omega
          have JC := Lib.hid ((cone_any w.heap.size (.mk 10 n s (constTs ks)) k0 A9 A4 n9 c9 n4 c4 _ HBW.out (.inr (.inl rfl)) HX.out own4))
          replace HW := Lib.hid (HW.out.trans HE.out)
          clear g1 g2 g3 HWD hwk hkid hrk own4 hk0
          go_wp2_with fail
          refine JC.out.mono ?_
          rintro e w9 ⟨A9, n9, c9, rfl, o9, hb9⟩
          have O9 := Lib.hid o9
          have hbz := hbw.trans (hb9.mono hbw.size)
          clear o9
          go_wp2_with fail
          go_ret
          exact ⟨A9, n9, c9, rfl, by rw [HW.out]; exact O9.out, hbz⟩
        · obtain ⟨d, g1, g2, g3⟩ := HWD.out (by decide) (by decide)
          obtain ⟨k0, hk0⟩ := g3 (by decide)
          have hwk := g1 k0 (by rw [hk0]; exact List.mem_cons_self ..)
          have hkid := wd_lit k0 hwk
          have HE := Lib.hid (show constK 11 n s (constTs ks) = oneK (.mk 11 n s (constTs ks)) k0 by rw [hk0]; rfl)
          have hrk := HRO.out
          rw [hk0] at hrk
          obtain ⟨b4, o4, A4, n4, c4, rfl, -, cc4, own4⟩ := hrk.at_ (k := 0) (by simp)
          simp only [List.getElem_cons_zero, Nat.add_zero] at cc4 own4
          have hkl : 0 < kl := by have := hrk.len; simp at this; omega
          have JC := Lib.hid ((cone_any w.heap.size (.mk 11 n s (constTs ks)) k0 A9 A4 n9 c9 n4 c4 _ HBW.out (.inr (.inr rfl)) HX.out own4))
          replace HW := Lib.hid (HW.out.trans HE.out)
          clear g1 g2 g3 HWD hwk hkid hrk own4 hk0
          go_wp2_with fail
          refine JC.out.mono ?_
          rintro e w9 ⟨A9, n9, c9, rfl, o9, hb9⟩
          have O9 := Lib.hid o9
          have hbz := hbw.trans (hb9.mono hbw.size)
          clear o9
          go_wp2_with fail
          go_ret
          exact ⟨A9, n9, c9, rfl, by rw [HW.out]; exact O9.out, hbz⟩
        · obtain ⟨d, g1, g2, g3⟩ := HWD.out (by decide) (by decide)
          obtain ⟨k0, hk0⟩ := g3 (by decide)
          have hwk := g1 k0 (by rw [hk0]; exact List.mem_cons_self ..)
          have hkid := wd_lit k0 hwk
          have HE := Lib.hid (show constK 8 n s (constTs ks) = textK (.mk 8 n s (constTs ks)) k0 by rw [hk0]; rfl)
          have hrk := HRO.out
          rw [hk0] at hrk
          obtain ⟨b4, o4, A4, n4, c4, rfl, -, cc4, own4⟩ := hrk.at_ (k := 0) (by simp)
          simp only [List.getElem_cons_zero, Nat.add_zero] at cc4 own4
          have hkl : 0 < kl := by have := hrk.len; simp at this; omega
          have JC := Lib.hid ((ctext_any w.heap.size (.mk 8 n s (constTs ks)) k0 A9 A4 n9 c9 n4 c4 _ HBW.out (.inl rfl) hkid HX.out own4))
          replace HW := Lib.hid (HW.out.trans HE.out)
          clear g1 g2 g3 HWD hwk hkid hrk own4 hk0
          go_wp2_with fail
          refine JC.out.mono ?_
          rintro e w9 ⟨A9, n9, c9, rfl, o9, hb9⟩
          have O9 := Lib.hid o9
          have hbz := hbw.trans (hb9.mono hbw.size)
          clear o9
          go_wp2_with fail
          go_ret
          exact ⟨A9, n9, c9, rfl, by rw [HW.out]; exact O9.out, hbz⟩
        · obtain ⟨d, g1, g2, g3⟩ := HWD.out (by decide) (by decide)
          obtain ⟨k0, hk0⟩ := g3 (by decide)
          have hwk := g1 k0 (by rw [hk0]; exact List.mem_cons_self ..)
          have hkid := wd_lit k0 hwk
          have HE := Lib.hid (show constK 7 n s (constTs ks) = textK (.mk 7 n s (constTs ks)) k0 by rw [hk0]; rfl)
          have hrk := HRO.out
          rw [hk0] at hrk
          obtain ⟨b4, o4, A4, n4, c4, rfl, -, cc4, own4⟩ := hrk.at_ (k := 0) (by simp)
          simp only [List.getElem_cons_zero, Nat.add_zero] at cc4 own4
          have hkl : 0 < kl := by have := hrk.len; simp at this; omega
          have JC := Lib.hid ((ctext_any w.heap.size (.mk 7 n s (constTs ks)) k0 A9 A4 n9 c9 n4 c4 _ HBW.out (.inr (.inl rfl)) hkid HX.out own4))
          replace HW := Lib.hid (HW.out.trans HE.out)
          clear g1 g2 g3 HWD hwk hkid hrk own4 hk0
          go_wp2_with fail
          refine JC.out.mono ?_
          rintro e w9 ⟨A9, n9, c9, rfl, o9, hb9⟩
          have O9 := Lib.hid o9
          have hbz := hbw.trans (hb9.mono hbw.size)
          clear o9
          go_wp2_with fail
          go_ret
          exact ⟨A9, n9, c9, rfl, by rw [HW.out]; exact O9.out, hbz⟩
        · obtain ⟨d, g1, g2, g3⟩ := HWD.out (by decide) (by decide)
          obtain ⟨k0, hk0⟩ := g3 (by decide)
          have hwk := g1 k0 (by rw [hk0]; exact List.mem_cons_self ..)
          have hkid := wd_lit k0 hwk
          have HE := Lib.hid (show constK 6 n s (constTs ks) = textK (.mk 6 n s (constTs ks)) k0 by rw [hk0]; rfl)
          have hrk := HRO.out
          rw [hk0] at hrk
          obtain ⟨b4, o4, A4, n4, c4, rfl, -, cc4, own4⟩ := hrk.at_ (k := 0) (by simp)
          simp only [List.getElem_cons_zero, Nat.add_zero] at cc4 own4
          have hkl : 0 < kl := by have := hrk.len; simp at this; omega
          have JC := Lib.hid ((ctext_any w.heap.size (.mk 6 n s (constTs ks)) k0 A9 A4 n9 c9 n4 c4 _ HBW.out (.inr (.inr (.inl rfl))) hkid HX.out own4))
          replace HW := Lib.hid (HW.out.trans HE.out)
          clear g1 g2 g3 HWD hwk hkid hrk own4 hk0
          go_wp2_with fail
          refine JC.out.mono ?_
          rintro e w9 ⟨A9, n9, c9, rfl, o9, hb9⟩
          have O9 := Lib.hid o9
          have hbz := hbw.trans (hb9.mono hbw.size)
          clear o9
          go_wp2_with fail
          go_ret
          exact ⟨A9, n9, c9, rfl, by rw [HW.out]; exact O9.out, hbz⟩
        · obtain ⟨d, g1, g2, g3⟩ := HWD.out (by decide) (by decide)
          obtain ⟨k0, hk0⟩ := g3 (by decide)
          have hwk := g1 k0 (by rw [hk0]; exact List.mem_cons_self ..)
          have hkid := wd_lit k0 hwk
          have HE := Lib.hid (show constK 5 n s (constTs ks) = textK (.mk 5 n s (constTs ks)) k0 by rw [hk0]; rfl)
          have hrk := HRO.out
          rw [hk0] at hrk
          obtain ⟨b4, o4, A4, n4, c4, rfl, -, cc4, own4⟩ := hrk.at_ (k := 0) (by simp)
          simp only [List.getElem_cons_zero, Nat.add_zero] at cc4 own4
          have hkl : 0 < kl := by have := hrk.len; simp at this; omega
          have JC := Lib.hid ((ctext_any w.heap.size (.mk 5 n s (constTs ks)) k0 A9 A4 n9 c9 n4 c4 _ HBW.out (.inr (.inr (.inr rfl))) hkid HX.out own4))
          replace HW := Lib.hid (HW.out.trans HE.out)
          clear g1 g2 g3 HWD hwk hkid hrk own4 hk0
          go_wp2_with fail
          refine JC.out.mono ?_
          rintro e w9 ⟨A9, n9, c9, rfl, o9, hb9⟩
          have O9 := Lib.hid o9
          have hbz := hbw.trans (hb9.mono hbw.size)
          clear o9
          go_wp2_with fail
          go_ret
          exact ⟨A9, n9, c9, rfl, by rw [HW.out]; exact O9.out, hbz⟩
      · have hbq : ∀ m : Int, 3 ≤ m → m ≤ 11 → (kd == m) = false := fun m h1 h2 => by rw [beq_eq_false_iff_ne]; omega
        have hb4 := hbq 4 (by decide) (by decide)
        have hb3 := hbq 3 (by decide) (by decide)
        have hb9 := hbq 9 (by decide) (by decide)
        have hb10 := hbq 10 (by decide) (by decide)
        have hb11 := hbq 11 (by decide) (by decide)
        have hb8 := hbq 8 (by decide) (by decide)
        have hb7 := hbq 7 (by decide) (by decide)
        have hb6 := hbq 6 (by decide) (by decide)
        have hb5 := hbq 5 (by decide) (by decide)
        have HE := Lib.hid (show constK kd n s (constTs ks) = .mk kd n s (constTs ks) by unfold constK; rw [hb4, hb3, hb9, hb10, hb11, hb8, hb7, hb6, hb5]; rfl)
        clear hbq hr HWD
        go_wp2_with fail
        go_ret
        exact ⟨A9, n9, c9, rfl, by rw [HW.out, HE.out]; exact HX.out, hbw⟩
end Go.Proofs.YtpogngdddendiaaDoor
