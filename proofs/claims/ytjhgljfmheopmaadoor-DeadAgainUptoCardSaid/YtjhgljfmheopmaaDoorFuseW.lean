/- The walks over fuse.whole, fuse.Pass, fuse.Pipes. Bounds on the lengths. -/
import Derived.Test.YtjhgljfmheopmaaDoorFuseM
import Derived.Test.YtjhgljfmheopmaaDoorCoreV
import Derived.Test.YtjhgljfmheopmaaDoorCheckW
import Derived.Test.YtjhgljfmheopmaaDoorSameW
import Derived.Deep.DeepCutAuto
import Derived.Outline
set_option linter.unusedVariables false
set_option linter.unusedSimpArgs false
namespace Go.Proofs.YtjhgljfmheopmaaDoor
open Go.RowKit

set_option maxRecDepth 100000 in
set_option maxHeartbeats 4000000 in
theorem fwhole_any : ∀ (N : Nat) (t : Tr) (v : Value) (w : World), (flat t).length ≤ N → N ≤ 4000000 → SlRd w v (flat t) → Calls Tryd.prog 50 #[v] w (NodesRet (flat (fuseT t)) w) := by
  intro N
  induction N with
  | zero => intro t v w h _ _; have := flat_pos t; omega
  | succ N ih =>
  intro t v w hN hN2 hv
  cases t with
  | mk kd n s ks =>
  rw [flat_size] at hN
  have hlk := len_flatAll ks
  obtain ⟨i0, hi, hz0, hz1, hz2⟩ := info_parts infoNodes
  have KC := Lib.hid (show ∀ W, SlRd W v (flat (.mk kd n s ks)) → Calls Tryd.prog 27 #[v] W (KidsRet (ks.map flat) W) from fun W h => by
    rw [← kidsL_flat kd n s ks]
    exact kids_any v _ W h (by rw [flat_size]; omega))
  have HV := Lib.hid hv
  obtain ⟨A, cp, rfl, hrd, hc, hm, hA, hsp⟩ := hv
  have h0 : 0 < (flat (.mk kd n s ks)).length := flat_pos _
  obtain ⟨b, o, rfl, hbl⟩ := hrd.addr h0
  have hx := hrd.at_ h0
  have hhead : (flat (.mk kd n s ks))[0] = ⟨kd, n, ks.length, ((1 + (flatAll ks).length : Nat) : Int), s⟩ := by simp [flat_mk]
  rw [hhead] at hx
  have c0 := hx.2 0 _ rfl
  have c1 := hx.2 1 _ rfl
  have c4 := hx.2 4 _ rfl
  simp only [Nat.zero_mul, Nat.add_zero] at c0 c1 c4
  clear hx hhead
  obtain ⟨m, hml⟩ : ∃ m, m = (flat (.mk kd n s ks)).length := ⟨_, rfl⟩
  rw [← hml] at KC hc h0 ⊢
  have HM := Lib.hid hml
  clear hml hrd hA hsp hm
  have HIH := Lib.hid ih
  clear ih
  go_enter Tryd.func50, Tryd.ntmps50
  go_wp2_with fail
  refine (KC.out _ (by rw [← HM.out] at HV; exact HV.out)).mono ?_
  rintro e w1 ⟨A1, cp1, vs, rfl, hown1, hall1, hb1⟩
  have hkr := KdRd.of_own hown1 rfl hall1
  rw [List.length_map] at hown1 ⊢
  clear hown1 hall1
  have c0' := cell_keep hb1 c0
  go_wp2_with fail
  go_loopw [3, 9] (fun u j wr => ∃ (k : Nat) (A' : Option Addr) (c' : Nat) (us : List Value), k ≤ ks.length ∧ j = .int .i64 k ∧ u = .slice A' (fuseTs kd (ks.take k)).length c' ∧
      wr.ownsRow w1.heap.size 25 1 (.slice A' (fuseTs kd (ks.take k)).length c') (fuseTs kd (ks.take k)).length us ∧ OwnAll wr w1.heap.size us ((fuseTs kd (ks.take k)).map flat) ∧ Below w1.heap.size w1 wr) (fun _ j _ => ks.length - (intOf j).toNat)
  case atStart => exact ⟨0, none, 0, [], Nat.zero_le _, rfl, by rw [List.take_zero, fuseTs_nil]; rfl, by rw [List.take_zero, fuseTs_nil]; exact World.ownsRow_nil _ _ _ _, by rw [List.take_zero, fuseTs_nil]; exact OwnAll.nil _ _, Below.refl _ _⟩
  case round =>
    obtain ⟨k, A', c', us, hk, rfl, rfl, hown, hall, hb⟩ := hrel
    have hdl : (fuseTs kd (ks.take k)).length ≤ (flatAll ks).length := by
      have h1 := len_flatAll (fuseTs kd (ks.take k))
      have h2 := fuseTs_le kd (ks.take k)
      have h3 := flatAll_take_le ks k
      omega
    by_cases hlt : k < ks.length
    · obtain ⟨bk, ok, vk, rfl, hbk, hck, hsk⟩ := (hkr.below hb).at_ (k := k) (by simpa using hlt)
      simp only [List.getElem_map] at hsk
      have hle := flatAll_mem_le ks k hlt
      have HT := Lib.hid (fuse_take kd ks k hlt)
      obtain ⟨t, ht⟩ : ∃ t, t = ks[k] := ⟨_, rfl⟩
      rw [← ht] at hsk hle HT
      have IH := Lib.hid (HIH.out t vk wr (by omega) (by omega) hsk)
      obtain ⟨done, hdone⟩ : ∃ done, done = fuseTs kd (ks.take k) := ⟨_, rfl⟩
      rw [← hdone] at hown hall hdl HT ⊢
      clear ht hdone hsk
      go_wp2_with fail
      refine IH.out.mono ?_
      rintro e w2 ⟨A2, c2, rfl, ho2, hb2⟩
      have hs2 := SlRd.of_own ho2 rfl
      have hb12 := hb.trans (hb2.mono hb.size)
      have hown2 := own_below hown hb2
      have hall2 := hall.below hb2
      have hc0k := cell_keep hb12 c0'
      have hpos := flat_pos (fuseT t)
      have hle2 := fuseT_le t
      obtain ⟨g2, o2, rfl, hg2⟩ := (show RdL w2 5 ndc A2 (flat (fuseT t)) by obtain ⟨A3, c3, he, hr, _⟩ := hs2; injection he with he _ _; subst he; exact hr).addr hpos
      have hk0 : w2.cell? ⟨g2, o2, none⟩ = some (.int .i64 t.kind) := by
        obtain ⟨A3, c3, he, hr, _⟩ := hs2
        injection he with he _ _
        subst he
        have := (hr.at_ hpos).2 0 _ rfl
        rw [flat_get0] at this
        simp only [fuse_kind, Nat.zero_mul, Nat.add_zero] at this
        exact this
      have HNK := Lib.hid (show (flat (fuseT t)).length ≤ 4000000 by omega)
      have KC2 := Lib.hid (show Calls Tryd.prog 27 #[.slice (some ⟨g2, o2, none⟩) (flat (fuseT t)).length c2] w2 (KidsRet ((fuseT t).kids.map flat) w2) by
        rw [← kidsL_tree]
        exact kids_any _ _ w2 hs2 HNK.out)
      have hkl : (fuseT t).kids.length + 1 ≤ (flat (fuseT t)).length := by
        have h1 := len_flatAll (fuseT t).kids
        have h2 := flat_kids_le (fuseT t)
        omega
      rw [fuse_kind] at HT
      have HL2 := Lib.hid (show OwnAll w2 w.heap.size [.slice (some ⟨g2, o2, none⟩) (flat (fuseT t)).length c2] [flat (fuseT t)] from OwnAll.one (own_mono ho2 (Nat.le_trans hb1.size hb.size)))
      have HL3 := Lib.hid (show OwnAll w2 w1.heap.size [.slice (some ⟨g2, o2, none⟩) (flat (fuseT t)).length c2] [flat (fuseT t)] from OwnAll.one (own_mono ho2 hb.size))
      clear ho2 hs2 hck hkr
      generalize (flat (fuseT t)).length = m2 at *
      cases hkd : (kd == 32)
      · go_wp2_with (at_builtin; refine wpList_push rfl _ _ _ rfl Tryd.underlying23 hi hz0 hz1 hz2 rfl (by decide) hown2 rfl rfl rfl (by simp [Value.oneCell']) (by omega) (by decide) hb12.size ?_; intro A4 c4' w4 hown4 hb4 hoo4)
        go_roundw
        case rel =>
          rw [hkd] at HT
          have hT := HT.out
          simp only [Bool.false_and, if_false, Bool.false_eq_true] at hT
          refine ⟨k + 1, A4, c4', us ++ [.slice (some ⟨g2, o2, none⟩) m2 c2], by omega, by go_num, by rw [hT]; simp, by rw [hT]; simpa using hown4, ?_, hb12.trans hb4⟩
          rw [hT, List.map_append]
          exact (hall2.others hoo4 (by decide)).append (HL3.out.others hoo4 (by decide))
        case measure => simp [intOf]; omega
      · cases hkt : (t.kind == 32)
        · go_wp2_with (at_builtin; refine wpList_push rfl _ _ _ rfl Tryd.underlying23 hi hz0 hz1 hz2 rfl (by decide) hown2 rfl rfl rfl (by simp [Value.oneCell']) (by omega) (by decide) hb12.size ?_; intro A4 c4' w4 hown4 hb4 hoo4)
          go_roundw
          case rel =>
            rw [hkd, hkt] at HT
            have hT := HT.out
            simp only [Bool.and_false, if_false, Bool.false_eq_true] at hT
            refine ⟨k + 1, A4, c4', us ++ [.slice (some ⟨g2, o2, none⟩) m2 c2], by omega, by go_num, by rw [hT]; simp, by rw [hT]; simpa using hown4, ?_, hb12.trans hb4⟩
            rw [hT, List.map_append]
            exact (hall2.others hoo4 (by decide)).append (HL3.out.others hoo4 (by decide))
          case measure => simp [intOf]; omega
        · go_wp2_with fail
          refine KC2.out.mono ?_
          rintro e w5 ⟨A5, c5, vs5, rfl, ho5, hl5, hb5⟩
          have hl5n : ((fuseT t).kids.map flat).length = vs5.length := hl5.1.symm
          obtain ⟨hr5, hA5, hsp5⟩ := rd_one ho5 hl5n
          have hcell5 := hl5.cells
          have hkl5 : vs5.length + 1 ≤ m2 := by rw [hl5.1, List.length_map]; exact hkl
          have hown5 := own_below hown2 hb5
          have hall5 := hall2.below hb5
          have hb15 := hb12.trans (hb5.mono hb12.size)
          have H5 := Lib.hid (show OwnAll w5 w1.heap.size vs5 ((fuseT t).kids.map flat) from hl5.mono hb12.size)
          rw [hl5n]
          rw [hl5n] at ho5
          have HLN := Lib.hid hl5n
          have HC5 := Lib.hid (show ∀ y, y ∈ vs5 → ∀ u ∈ one1 y, u.oneCell' = true from fun y hy u hu => by simp [one1] at hu; subst hu; exact hcell5 _ hy)
          clear hl5n hl5 hcell5
          go_wp2_with (at_builtin; refine wpList_pushMem (enc := one1) rfl _ _ _ rfl Tryd.underlying23 hi hz0 hz1 hz2 rfl (by decide) hown5 rfl rfl rfl hr5 hA5 hsp5 one1_len HC5.out (by omega) (by decide) hb15.size ?_; intro A4 c4' w4 hown4 hb4 hoo4)
          go_roundw
          case rel =>
            rw [hkd, hkt] at HT
            have hT := HT.out
            simp only [Bool.and_true, if_true] at hT
            have hTl : (fuseTs kd (ks.take (k + 1))).length = done.length + vs5.length := by rw [hT, List.length_append, ← HLN.out, List.length_map]
            rw [one1_flat] at hown4
            refine ⟨k + 1, A4, c4', us ++ vs5, by omega, by go_num, by rw [hTl], by rw [hTl]; exact hown4, ?_, hb15.trans hb4⟩
            rw [hT, List.map_append]
            exact (hall5.others hoo4 (by decide)).append (H5.out.others hoo4 (by decide))
          case measure => simp [intOf]; omega
    · obtain rfl : k = ks.length := by omega
      rw [List.take_length] at hown hall hdl ⊢
      have hlf := fuseTs_le kd ks
      obtain ⟨done, hdone⟩ : ∃ done, done = fuseTs kd ks := ⟨_, rfl⟩
      have HR := Lib.hid (show newL kd n s (done.map flat) = flat (fuseT (.mk kd n s ks)) by rw [fuseT_mk, ← newL_flat, hdone])
      rw [← hdone] at hown hall hdl hlf ⊢
      have hkd := KdRd.of_own hown (by simp) hall
      have hbw := hb1.trans (hb.mono hb1.size)
      have NW := Lib.hid (show ∀ W, KdRd W A' (done.map flat) → Calls Tryd.prog 16 #[.int .i64 kd, .int .i64 n, .string ⟨s.toArray⟩, .slice A' done.length c'] W (NodesRet (flat (fuseT (.mk kd n s ks))) W) from fun W h => by
        have h2 := new_any kd n s A' c' (done.map flat) W h (by rw [List.length_map]; omega) (by rw [flatAll_flatten]; omega)
        rw [HR.out, List.length_map] at h2
        exact h2)
      have w0 := cell_keep hbw c0
      have w1' := cell_keep hbw c1
      have w4 := cell_keep hbw c4
      clear c0 c1 c4 c0' hown hall hkr hdone hlf hlt
      go_upto_region 10 with (fail)
      go_cut [2] (fun v wx => OwnNd wx wr.heap.size v (flat (fuseT (.mk kd n s ks))) ∧ Below wr.heap.size wr wx)
      case first =>
        apply wp_region_rel [eqT _, eqT _, eqT _, eqT _, eqT _, eqT _, eqT _, eqT _, eqT _, eqT _, eqT _, eqT _, eqT _, nodesT wr.heap.size (flat (fuseT (.mk kd n s ks))), nodesT wr.heap.size (flat (fuseT (.mk kd n s ks)))] (by kernel_rfl) (by kernel_rfl) rfl
        focus
          refine ⟨?_, ?_⟩
          focus
            unfold opGoal
            rw [if_pos (by kernel_rfl)]
            intro x hb hd K hk
            clear hd
            go_wp2_with fail
            exact hk _ _ rfl trivial (Below.refl _ _)
          rintro _ rfl
          simp only [Act.put, List.setIfInBounds_toArray, List.set_cons_succ, List.set_cons_zero]
          refine ⟨?_, ?_⟩
          focus
            unfold opGoal
            rw [if_pos (by kernel_rfl)]
            intro x hb hd K hk
            clear hd
            go_wp2_with fail
            exact hk _ _ rfl trivial (Below.refl _ _)
          rintro _ rfl
          simp only [Act.put, List.setIfInBounds_toArray, List.set_cons_succ, List.set_cons_zero]
          refine ⟨?_, ?_⟩
          focus
            unfold opGoal
            rw [if_pos (by kernel_rfl)]
            intro x hb hd K hk
            clear hd
            go_wp2_with fail
            exact hk _ _ rfl trivial (Below.refl _ _)
          rintro _ rfl
          simp only [Act.put, List.setIfInBounds_toArray, List.set_cons_succ, List.set_cons_zero]
          refine ⟨?_, ?_⟩
          focus
            unfold opGoal
            rw [if_pos (by kernel_rfl)]
            intro x hb hd K hk
            clear hd
            have l0 := cell_keep hb w0
            go_wp2_with fail
            exact hk _ _ rfl trivial (Below.refl _ _)
          rintro _ rfl
          simp only [Act.put, List.setIfInBounds_toArray, List.set_cons_succ, List.set_cons_zero]
          refine ⟨?_, ?_⟩
          focus
            unfold opGoal
            rw [if_pos (by kernel_rfl)]
            intro x hb hd K hk
            clear hd
            go_wp2_with fail
            exact hk _ _ rfl trivial (Below.refl _ _)
          rintro _ rfl
          simp only [Act.put, List.setIfInBounds_toArray, List.set_cons_succ, List.set_cons_zero]
          refine ⟨?_, ?_⟩
          focus
            unfold opGoal
            rw [if_pos (by kernel_rfl)]
            intro x hb hd K hk
            clear hd
            go_wp2_with fail
            exact hk _ _ rfl trivial (Below.refl _ _)
          rintro _ rfl
          simp only [Act.put, List.setIfInBounds_toArray, List.set_cons_succ, List.set_cons_zero]
          refine ⟨?_, ?_⟩
          focus
            unfold opGoal
            rw [if_pos (by kernel_rfl)]
            intro x hb hd K hk
            clear hd
            go_wp2_with fail
            exact hk _ _ rfl trivial (Below.refl _ _)
          rintro _ rfl
          simp only [Act.put, List.setIfInBounds_toArray, List.set_cons_succ, List.set_cons_zero]
          refine ⟨?_, ?_⟩
          focus
            unfold opGoal
            rw [if_pos (by kernel_rfl)]
            intro x hb hd K hk
            clear hd
            have l0 := cell_keep hb w1'
            go_wp2_with fail
            exact hk _ _ rfl trivial (Below.refl _ _)
          rintro _ rfl
          simp only [Act.put, List.setIfInBounds_toArray, List.set_cons_succ, List.set_cons_zero]
          refine ⟨?_, ?_⟩
          focus
            unfold opGoal
            rw [if_pos (by kernel_rfl)]
            intro x hb hd K hk
            clear hd
            go_wp2_with fail
            exact hk _ _ rfl trivial (Below.refl _ _)
          rintro _ rfl
          simp only [Act.put, List.setIfInBounds_toArray, List.set_cons_succ, List.set_cons_zero]
          refine ⟨?_, ?_⟩
          focus
            unfold opGoal
            rw [if_pos (by kernel_rfl)]
            intro x hb hd K hk
            clear hd
            go_wp2_with fail
            exact hk _ _ rfl trivial (Below.refl _ _)
          rintro _ rfl
          simp only [Act.put, List.setIfInBounds_toArray, List.set_cons_succ, List.set_cons_zero]
          refine ⟨?_, ?_⟩
          focus
            unfold opGoal
            rw [if_pos (by kernel_rfl)]
            intro x hb hd K hk
            clear hd
            go_wp2_with fail
            exact hk _ _ rfl trivial (Below.refl _ _)
          rintro _ rfl
          simp only [Act.put, List.setIfInBounds_toArray, List.set_cons_succ, List.set_cons_zero]
          refine ⟨?_, ?_⟩
          focus
            unfold opGoal
            rw [if_pos (by kernel_rfl)]
            intro x hb hd K hk
            clear hd
            have l0 := cell_keep hb w4
            go_wp2_with fail
            exact hk _ _ rfl trivial (Below.refl _ _)
          rintro _ rfl
          simp only [Act.put, List.setIfInBounds_toArray, List.set_cons_succ, List.set_cons_zero]
          refine ⟨?_, ?_⟩
          focus
            unfold opGoal
            rw [if_pos (by kernel_rfl)]
            intro x hb hd K hk
            clear hd
            go_wp2_with fail
            exact hk _ _ rfl trivial (Below.refl _ _)
          rintro _ rfl
          simp only [Act.put, List.setIfInBounds_toArray, List.set_cons_succ, List.set_cons_zero]
          refine ⟨?_, ?_⟩
          focus
            unfold opGoal
            rw [if_pos (by kernel_rfl)]
            intro x hb hd K hk
            clear hd
            go_wp2_with fail
            refine (NW.out x (hkd.below hb)).mono ?_
            rintro e9 w9 ⟨A9, c9, rfl, hv, hb9⟩
            exact hk _ _ ⟨_, _, _, rfl⟩ ⟨A9, c9, rfl, own_mono hv hb.size⟩ hb9
          rintro _ ⟨A8, n8, c8, rfl⟩
          simp only [Act.put, List.setIfInBounds_toArray, List.set_cons_succ, List.set_cons_zero]
          refine ⟨?_, ?_⟩
          focus
            unfold opGoal
            rw [if_pos (by kernel_rfl)]
            intro x hb hd K hk
            have hv := hd _ (List.mem_cons_self ..) rfl _ _ rfl rfl
            clear hd
            go_wp2_with fail
            exact hk _ _ ⟨_, _, _, rfl⟩ hv (Below.refl _ _)
          rintro _ ⟨A7, n7, c7, rfl⟩
          simp only [Act.put, List.setIfInBounds_toArray, List.set_cons_succ, List.set_cons_zero]
          intro x hb hall
          have hv : OwnNd x wr.heap.size (.slice A7 n7 c7) (flat (fuseT (.mk kd n s ks))) := hall 14 _ _ rfl rfl
          clear hall
          go_wp2_with fail
          go_meet
          exact ⟨hv, hb⟩
      case rest =>
      obtain ⟨⟨A9, c9, rfl, hv⟩, hbx⟩ := hcut
      go_wp2_with fail
      go_ret
      exact ⟨A9, c9, rfl, own_mono hv hbw.size, hbw.trans (hbx.mono hbw.size)⟩

set_option maxHeartbeats 1000000 in
theorem pipes_any (A : Option Addr) (cp : Nat) (L : List Nd) (w : World) (hrd : RdL w 5 ndc A L) (hL : L.length ≤ 4000000) :
    Calls Tryd.prog 34 #[.slice A L.length cp] w (Ret w (.int .i64 (L.countP fun x => x.kind == 32))) := by
  obtain ⟨m, hm⟩ : ∃ m, m = L.length := ⟨_, rfl⟩
  rw [← hm] at hL ⊢
  have HM := Lib.hid hm
  clear hm
  go_enter Tryd.func34, Tryd.ntmps34
  go_wp2_with fail
  go_loopw [3, 8] (fun n i wr => ∃ k : Nat, k ≤ m ∧ i = .int .i64 k ∧ n = .int .i64 ((L.take k).countP fun x => x.kind == 32) ∧ Below w.heap.size w wr) (fun _ i _ => m - (intOf i).toNat)
  case atStart => exact ⟨0, Nat.zero_le _, rfl, by simp, Below.refl _ _⟩
  case round =>
    obtain ⟨k, hk, rfl, rfl, hb⟩ := hrel
    by_cases hlt : k < m
    · have hlt' : k < L.length := by rw [← HM.out]; exact hlt
      obtain ⟨b, o, rfl, _, hc⟩ := (hrd.below hb) k hlt'
      have HS := Lib.hid (show (L.take (k + 1)).countP (fun x => x.kind == 32) = (L.take k).countP (fun x => x.kind == 32) + if L[k].kind == 32 then 1 else 0 by
        rw [List.take_succ_eq_append_getElem hlt', List.countP_append, List.countP_singleton])
      have hle : (L.take k).countP (fun x => x.kind == 32) ≤ k := by
        have h1 := List.countP_le_length (p := fun x : Nd => x.kind == 32) (l := L.take k)
        rw [List.length_take] at h1
        omega
      generalize (L.take k).countP (fun x => x.kind == 32) = q at *
      obtain ⟨x, hx⟩ : ∃ x, x = L[k] := ⟨_, rfl⟩
      rw [← hx] at hc HS
      have h0 := hc 0 _ rfl
      have h1 := hc 1 _ rfl
      have h2 := hc 2 _ rfl
      have h3 := hc 3 _ rfl
      have h4 := hc 4 _ rfl
      simp only [Nat.add_zero] at h0
      clear hc hx hlt'
      cases hkd : (x.kind == 32)
      all_goals
        rw [hkd] at HS
        go_wp2_with fail
        go_roundw
        case rel => exact ⟨k + 1, by omega, by go_num, by rw [HS.out]; go_num, hb.alloc hb.size _⟩
        case measure => simp [intOf]; omega
    · obtain rfl : k = m := by omega
      have HS := Lib.hid (show L.take k = L by rw [HM.out, List.take_length])
      go_wp2_with fail
      go_ret
      exact ⟨by rw [HS.out]; rfl, hb⟩
end Go.Proofs.YtjhgljfmheopmaaDoor
