/- The walk over inline.functions: which functions are known, and how many stand ahead. Bounds on the lengths. -/
import Derived.Test.YtclifaehbdeldaaDoorInlB
import Derived.Test.YtclifaehbdeldaaDoorInlL
import Derived.Test.YtclifaehbdeldaaDoorCheckW
import Derived.Test.YtclifaehbdeldaaDoorHasW
import Derived.Test.YtclifaehbdeldaaDoorGA
import Derived.Deep.DeepCutAuto
import Derived.Outline
set_option linter.unusedVariables false
set_option linter.unusedSimpArgs false
namespace Go.Proofs.YtclifaehbdeldaaDoor
open Go.RowKit Go.Maps

theorem alloc_sz (w : World) (o : Obj) : (w.alloc o).heap.size = w.heap.size + 1 := by simp
open Classical in
/-- The tree of a list of nodes, where it is a program. -/
noncomputable def theT (L : List Nd) : Option Tr := if h : manyB L = false ∧ ∃ t, okT 30 false t = true ∧ flat t = L then some h.2.choose else none
theorem theT_tree {t : Tr} (hok : okT 30 false t = true) (hn : (flat t).length ≤ 3000) : theT (flat t) = some t := by
  have hm : manyB (flat t) = false := by
    have := flat_pos t
    simp only [manyB, Bool.or_eq_false_iff, beq_eq_false_iff_ne, decide_eq_false_iff_not]
    omega
  unfold theT
  have h : manyB (flat t) = false ∧ ∃ t', okT 30 false t' = true ∧ flat t' = flat t := ⟨hm, t, hok, rfl⟩
  rw [dif_pos h, flat_inj _ h.2.choose t (Nat.le_refl _) h.2.choose_spec.2]
theorem theT_bad {L : List Nd} (h : manyB L = true ∨ checkP L ≠ none) : theT L = none := by
  unfold theT
  rw [dif_neg]
  rintro ⟨h1, h2⟩
  rcases h with h | h
  · rw [h] at h1; cases h1
  · refine h ((check_tree L ?_).2 h2)
    intro h0
    rw [manyB, h0] at h1
    simp at h1
theorem theT_some {L : List Nd} {t : Tr} (h : theT L = some t) : okT 30 false t = true ∧ flat t = L ∧ L.length ≤ 3000 := by
  unfold theT at h
  split at h
  · rename_i hh
    injection h with h
    subst h
    refine ⟨hh.2.choose_spec.1, hh.2.choose_spec.2, ?_⟩
    have := hh.1
    simp only [manyB, Bool.or_eq_false_iff, beq_eq_false_iff_ne, decide_eq_false_iff_not] at this
    omega
  · cases h
def noB : Body := fun _ => none
/-- What is known of a program; how many functions stand ahead. -/
def funOf (t : Tr) : Body × Nat := if t.kind == 23 && !((flat t).any fun x => [36].contains x.kind) then (bodyF (flat t) t.kids, (leadF t.kids).length) else (noB, 0)
noncomputable def funcL (L : List Nd) : Body × Nat := match theT L with
  | none => (noB, 0)
  | some t => funOf t
def FunRet (r : Body × Nat) (w : World) (e : Ending) (w' : World) : Prop :=
  ∃ mb N, e = .returned (.tuple #[.agg #[.map (some mb)], .int .i64 r.2]) ∧ BodR w' mb N r.1 ∧ N ≤ 4000000 ∧ w.heap.size ≤ mb ∧ Below w.heap.size w w'

theorem below_set {n g : Nat} {w : World} (hg : n ≤ g) (hs : n ≤ w.heap.size) (u : Value) : Below n w (w.setCell ⟨g, 0, none⟩ u) := (But.set w 0 u).below hg hs
set_option maxRecDepth 100000 in
set_option maxHeartbeats 4000000 in
theorem funs_any (v : Value) (L : List Nd) (aN aT aM : Addr) (w : World) (hL : L.length ≤ 4000000) (hok : ∀ x ∈ L, NdOk x) (hv : SlRd w v L) (hE : ErrW w aN aT aM) :
    Calls Tryd.prog 71 #[v] w (FunRet (funcL L) w) := by
  obtain ⟨w1, hw1⟩ : ∃ w1, w1 = ((w.alloc (.cells #[.map none] 112)).alloc (.map #[] 0)).alloc (.cells #[.map (some (w.heap.size + 1))] 112) := ⟨_, rfl⟩
  have hba : Below w.heap.size w (w.alloc (.cells #[.map none] 112)) := (Below.refl _ _).alloc (Nat.le_refl _) _
  have hbb := hba.alloc hba.size (.map #[] 0)
  have hbc := hbb.alloc hbb.size (.cells #[.map (some (w.heap.size + 1))] 112)
  obtain ⟨g0, hg0⟩ : ∃ g0, g0 = w.heap.size := ⟨_, rfl⟩
  obtain ⟨mb, hmb⟩ : ∃ mb, mb = w.heap.size + 1 := ⟨_, rfl⟩
  obtain ⟨g2, hg2⟩ : ∃ g2, g2 = w.heap.size + 1 + 1 := ⟨_, rfl⟩
  have hQ0 : Blk w1 g0 112 #[.map none] := by
    rw [hw1, hg0]
    exact (Blk.new w _ _).below ((Below.refl _ _).alloc (Nat.le_refl _) _ |>.alloc (by simp) _)
  have hM0 : BodR w1 mb 0 noB := by
    have := MapR.made bodR (w.alloc (.cells #[.map none] 112))
    rw [alloc_sz, ← hmb] at this
    rw [hw1]
    exact BodR.below' this ((Below.refl _ _).alloc (Nat.le_refl _) _)
  have hQ2 : Blk w1 g2 112 #[.map (some mb)] := by
    have := Blk.new ((w.alloc (.cells #[.map none] 112)).alloc (.map #[] 0)) 112 #[.map (some (w.heap.size + 1))]
    rw [alloc_sz, alloc_sz, ← hg2] at this
    rw [hw1, hmb]
    exact this
  have HB1 := Lib.hid (show Below w.heap.size w w1 by rw [hw1]; exact hbc)
  have HV1 := Lib.hid (hv.below HB1.out)
  have hE1 := hE.below HB1.out
  have HCK := Lib.hid (show Calls Tryd.prog 14 #[v] w1 (CheckRet L aN aT aM w1) by
    obtain ⟨A, c, rfl, hrd, _⟩ := HV1.out
    exact check_any A c L aN aT aM w1 hL hok hrd hE1)
  have HG0 := Lib.hid hg0
  have HMB := Lib.hid hmb
  have HG2 := Lib.hid hg2
  have HQ0 := Lib.hid hQ0
  have HQ2 := Lib.hid hQ2
  have HM0 := Lib.hid hM0
  have HW1 := Lib.hid hw1
  have hmk := fun W => run_makeMap (P := Tryd.prog) 110 W
  clear hw1 hba hbb hbc hg0 hmb hg2 hQ0 hQ2 hM0 hv hE hE1
  go_enter Tryd.func71, Tryd.ntmps71
  go_upto_region 2 with (fail)
  rw [← HW1.out, ← HG2.out, ← HMB.out, ← HG0.out]
  clear hmk
  go_wp2_with fail
  refine HCK.out.mono ?_
  rintro e w2 ⟨v1, rfl, hv1, hb1⟩
  have HV2 := Lib.hid (HV1.out.below hb1)
  have HB := Lib.hid (HB1.out.trans (hb1.mono HB1.out.size))
  replace HQ0 := Lib.hid (HQ0.out.below hb1)
  replace HQ2 := Lib.hid (HQ2.out.below hb1)
  replace HM0 := Lib.hid (BodR.below' HM0.out hb1)
  have q0 := HQ0.out.cell 0
  have q2 := HQ2.out.cell 0
  have f0 := HQ0.out.frozen 0
  simp only [List.getElem?_toArray, List.getElem?_cons_zero] at q0 q2
  clear HCK HV1 HB1 hb1 HW1
  cases hm : manyB L
  case true =>
    rw [hm, if_pos rfl] at hv1
    subst hv1
    have HFN := Lib.hid (show funcL L = (noB, 0) by unfold funcL; rw [theT_bad (.inl hm)])
    clear hm
    have FN := Lib.hid (HFN.out)
    clear HFN
    go_wp2_with fail
    have hq := HQ0.out.set 0 (.map (some mb))
    have t0 := hq.cell 0
    simp only [List.getElem?_toArray, List.getElem?_cons_zero, List.setIfInBounds_toArray, List.set_cons_zero] at t0
    refine bodyPost_ret (v := .tuple #[.agg #[.map (some mb)], .int .i64 0]) (by simp [results, Tryd.results71, go_sem, t0]) rfl ⟨mb, _, by rw [FN.out]; rfl, by rw [FN.out]; exact BodR.but HM0.out HQ0.out (by decide) (But.set _ _ _), by decide, by rw [HMB.out]; omega, HB.out.trans (below_set (by rw [HG0.out]; exact Nat.le_refl _) HB.out.size _)⟩
  case false =>
  rw [hm, if_neg Bool.noConfusion] at hv1
  cases hc : checkP L with
  | some z =>
    obtain ⟨i, nb⟩ := z
    rw [hc] at hv1
    obtain ⟨g, rfl, _⟩ := hv1
    have HFN := Lib.hid (show funcL L = (noB, 0) by unfold funcL; rw [theT_bad (.inr (by rw [hc]; simp))])
    clear hm hc
    have FN := Lib.hid (HFN.out)
    clear HFN
    go_wp2_with fail
    have hq := HQ0.out.set 0 (.map (some mb))
    have t0 := hq.cell 0
    simp only [List.getElem?_toArray, List.getElem?_cons_zero, List.setIfInBounds_toArray, List.set_cons_zero] at t0
    refine bodyPost_ret (v := .tuple #[.agg #[.map (some mb)], .int .i64 0]) (by simp [results, Tryd.results71, go_sem, t0]) rfl ⟨mb, _, by rw [FN.out]; rfl, by rw [FN.out]; exact BodR.but HM0.out HQ0.out (by decide) (But.set _ _ _), by decide, by rw [HMB.out]; omega, HB.out.trans (below_set (by rw [HG0.out]; exact Nat.le_refl _) HB.out.size _)⟩
  | none =>
    rw [hc] at hv1
    obtain rfl : v1 = Value.nilIface := hv1
    obtain ⟨h0, h3⟩ : L.length ≠ 0 ∧ L.length ≤ 3000 := by
      simp only [manyB, Bool.or_eq_false_iff, beq_eq_false_iff_ne, decide_eq_false_iff_not] at hm
      omega
    obtain ⟨t, ht1, ht2⟩ := (check_tree L h0).1 hc
    have HFT := Lib.hid (show funcL L = funOf t by unfold funcL; rw [← ht2, theT_tree ht1 (by rw [ht2]; exact h3)])
    clear hm hc
    subst ht2
    have HOK := Lib.hid ht1
    clear ht1
    obtain ⟨A, cp, rfl, hrd, hcc, hmm, hA, _⟩ := HV2.out
    have hpos : 0 < (flat t).length := flat_pos t
    obtain ⟨b, o, rfl, hbl⟩ := hrd.addr hpos
    have c0 := (hrd.at_ hpos).2 0 _ rfl
    rw [flat_get0] at c0
    simp only [Nat.zero_mul, Nat.add_zero] at c0
    obtain ⟨m, hm⟩ : ∃ m, m = (flat t).length := ⟨_, rfl⟩
    have KC := Lib.hid (fun (W : World) (hW : Below w2.heap.size w2 W) => show Calls Tryd.prog 64 #[.slice (some ⟨b, o, none⟩) m cp] W (KidsRet (t.kids.map flat) W) by
      rw [← kidsL_tree, hm]
      exact kids_any _ _ W (HV2.out.below hW) hL)
    rw [← hm] at hcc hpos h3 ⊢
    have HR := Lib.hid hrd
    have HHM := Lib.hid hm
    have HND := Lib.hid hok
    clear hm hrd HV2 hA h0 hL hok
    cases hk : (t.kind == 23)
    case false =>
      have HFN := Lib.hid (show funcL (flat t) = (noB, 0) by rw [HFT.out]; unfold funOf; rw [hk]; rfl)
      have hkn : (t.kind != 23) = true := by rw [bne, hk]; rfl
      clear hk
      have FN := Lib.hid (HFN.out)
      clear HFN
      go_wp2_with fail
      have hq := HQ0.out.set 0 (.map (some mb))
      have t0 := hq.cell 0
      simp only [List.getElem?_toArray, List.getElem?_cons_zero, List.setIfInBounds_toArray, List.set_cons_zero] at t0
      refine bodyPost_ret (v := .tuple #[.agg #[.map (some mb)], .int .i64 0]) (by simp [results, Tryd.results71, go_sem, t0]) rfl ⟨mb, _, by rw [FN.out]; rfl, by rw [FN.out]; exact BodR.but HM0.out HQ0.out (by decide) (But.set _ _ _), by decide, by rw [HMB.out]; omega, HB.out.trans (below_set (by rw [HG0.out]; exact Nat.le_refl _) HB.out.size _)⟩
    case true =>
    have HK23 := Lib.hid hk
    have hkn : (t.kind != 23) = false := by rw [bne, hk]; rfl
    clear hk
    have hr1 : RdL (w2.alloc (.cells #[.int .i64 36] 3)) 1 intc (some ⟨w2.heap.size, 0, none⟩) [36] := by
      intro k hk
      have hk0 : k = 0 := by simpa using hk
      subst hk0
      refine ⟨w2.heap.size, 0, rfl, (Blk.new w2 _ _).lt, fun j u hu => ?_⟩
      have z0 := (Blk.new w2 3 #[.int .i64 36]).cell 0
      cases j with
      | zero => simp only [intc, List.getElem_cons_zero, List.getElem?_cons_zero, Option.some.injEq] at hu; subst hu; simp
      | succ j => simp [intc] at hu
    have hba : Below w2.heap.size w2 (w2.alloc (.cells #[.int .i64 36] 3)) := (Below.refl _ _).alloc (Nat.le_refl _) _
    have HC := Lib.hid (has_any (some ⟨b, o, none⟩) cp m (flat t) (some ⟨w2.heap.size, 0, none⟩) 1 1 [36] _ HHM.out rfl (HR.out.below hba) (by rw [← HHM.out]; omega) hr1 (by decide))
    have HBA := Lib.hid hba
    clear hr1 hba
    obtain ⟨qa, hqa⟩ : ∃ qa, qa = (flat t).any fun x => [36].contains x.kind := ⟨_, rfl⟩
    rw [← hqa] at HC
    have HQA := Lib.hid hqa
    clear hqa
    go_wp2_with fail
    refine HC.out.mono ?_
    rintro e w3 ⟨rfl, hb3⟩
    have hb23 : Below w2.heap.size w2 w3 := HBA.out.trans (hb3.mono HBA.out.size)
    replace HB := Lib.hid (HB.out.trans ((hb23).mono HB.out.size))
    replace HQ0 := Lib.hid (HQ0.out.below hb23)
    replace HQ2 := Lib.hid (HQ2.out.below hb23)
    replace HM0 := Lib.hid (BodR.below' HM0.out hb23)
    clear q0 q2 f0
    have q0 := HQ0.out.cell 0
    have q2 := HQ2.out.cell 0
    have f0 := HQ0.out.frozen 0
    simp only [List.getElem?_toArray, List.getElem?_cons_zero] at q0 q2
    cases qa
    case true =>
      have HFN := Lib.hid (show funcL (flat t) = (noB, 0) by rw [HFT.out]; unfold funOf; rw [← HQA.out, HK23.out]; rfl)
      have FN := Lib.hid (HFN.out)
      clear HFN
      go_wp2_with fail
      have hq := HQ0.out.set 0 (.map (some mb))
      have t0 := hq.cell 0
      simp only [List.getElem?_toArray, List.getElem?_cons_zero, List.setIfInBounds_toArray, List.set_cons_zero] at t0
      refine bodyPost_ret (v := .tuple #[.agg #[.map (some mb)], .int .i64 0]) (by simp [results, Tryd.results71, go_sem, t0]) rfl ⟨mb, _, by rw [FN.out]; rfl, by rw [FN.out]; exact BodR.but HM0.out HQ0.out (by decide) (But.set _ _ _), by decide, by rw [HMB.out]; omega, HB.out.trans (below_set (by rw [HG0.out]; exact Nat.le_refl _) HB.out.size _)⟩
    case false =>
    have HFF := Lib.hid (show funcL (flat t) = (bodyF (flat t) t.kids, (leadF t.kids).length) by rw [HFT.out]; unfold funOf; rw [← HQA.out, HK23.out]; rfl)
    replace HR := Lib.hid (HR.out.below hb23)
    replace KC := Lib.hid (fun (W : World) (hW : Below w3.heap.size w3 W) => KC.out W (hb23.trans (hW.mono hb23.size)))
    clear HBA HC HQA HFT hb23 hb3 c0 hbl hkn
    have hmk := fun W => run_makeMap (P := Tryd.prog) 156 W
    have hMK := MapIs.made w3 Tryd.prog 9
    have hba : Below w3.heap.size w3 (w3.alloc (.map #[] 0)) := (Below.refl _ _).alloc (Nat.le_refl _) _
    obtain ⟨mk, hmk'⟩ : ∃ mk, mk = w3.heap.size := ⟨_, rfl⟩
    rw [← hmk'] at hMK
    obtain ⟨w4, hw4⟩ : ∃ w4, w4 = w3.alloc (.map #[] 0) := ⟨_, rfl⟩
    rw [← hw4] at hMK hba
    have HW4 := Lib.hid hw4
    have HKE := Lib.hid hmk'
    have HMK := Lib.hid hMK
    have HBL3 := Lib.hid (MapR.lt HM0.out)
    have HB4 := Lib.hid hba
    clear hw4 hmk' hMK hba
    go_upto_region 6 with (fail)
    rw [← HW4.out, ← HKE.out]
    clear hmk HW4
    go_loopw [32] (fun i wr => ∃ k : Nat, k ≤ m ∧ i = .int .i64 k ∧ Hid (MapIs Tryd.prog 9 wr mk k (cntV ((flat t).take k))) ∧ Below w3.heap.size w3 wr) (fun i _ => m - (intOf i).toNat)
    case atStart => exact ⟨0, Nat.zero_le _, rfl, Lib.hid (HMK.out.congr fun s => rfl), HB4.out⟩
    case round =>
      obtain ⟨k, hk, rfl, HMI, hbr⟩ := hrel
      by_cases hlt : k < m
      · have hlt' : k < (flat t).length := by rw [← HHM.out]; exact hlt
        have hc := ((HR.out.below hbr).at_ hlt').2
        obtain ⟨x, hx⟩ : ∃ x, x = (flat t)[k] := ⟨_, rfl⟩
        have HT := Lib.hid (show (flat t).take (k + 1) = (flat t).take k ++ [x] by rw [List.take_succ_eq_append_getElem hlt', hx])
        have HXL := Lib.hid (show x.s.length ≤ 4000000 from (HND.out x (by rw [hx]; exact List.getElem_mem _)).1)
        have HCL := Lib.hid (show cntF ((flat t).take k) x.s ≤ k from Nat.le_trans (cntF_le _ _) (List.length_take_le ..))
        rw [← hx] at hc
        have c0 := hc 0 _ rfl
        have c1 := hc 1 _ rfl
        have c2 := hc 2 _ rfl
        have c3 := hc 3 _ rfl
        have c4 := hc 4 _ rfl
        simp only [Nat.add_zero] at c0
        clear hc hx hlt'
        obtain ⟨wx, hwx⟩ : ∃ wx, wx = wr.alloc (.cells #[.int .i64 x.kind, .int .i64 x.n, .int .i64 x.k, .int .i64 x.size, .string ⟨x.s.toArray⟩] 45) := ⟨_, rfl⟩
        have hbx : Below wr.heap.size wr wx := by rw [hwx]; exact (Below.refl _ _).alloc (Nat.le_refl _) _
        have hBX : Blk wx wr.heap.size 45 #[.int .i64 x.kind, .int .i64 x.n, .int .i64 x.k, .int .i64 x.size, .string ⟨x.s.toArray⟩] := by rw [hwx]; exact Blk.new wr _ _
        have z0 := hBX.cell 0
        have z4 := hBX.cell 4
        simp only [List.getElem?_toArray, List.getElem?_cons_zero, List.getElem?_cons_succ] at z0 z4
        have HWX := Lib.hid hwx
        have HBX := Lib.hid (hbr.trans (hbx.mono hbr.size))
        have HMX := Lib.hid (HMI.out.below hbx)
        clear hbx hBX hwx HMI hbr
        go_upto_region 8 with (fail)
        rw [← HWX.out]
        clear HWX c0 c1 c2 c3 c4
        cases hk31 : (x.kind == 31)
        case false =>
          have HK := Lib.hid hk31
          clear z4
          go_wp2_with fail
          go_roundw
          case rel => exact ⟨k + 1, by omega, by go_num, Lib.hid ((HMX.out.mono (Nat.le_succ k)).congr fun s => by rw [HT.out, cntV_snoc, if_neg (fun h => by have := HK.out; rw [h.1] at this; cases this)]), HBX.out⟩
          case measure => simp [intOf]; omega
        case true =>
          have HK := Lib.hid (show x.kind = 31 by simpa using hk31)
          have hlk := HMX.out.look1 mstr Tryd.underlying156 (Tryd.zeroValue3 wx) (s := x.s) (by have := HXL.out; unfold maxLen; omega)
          rw [cntV_get] at hlk
          obtain ⟨c, hcc'⟩ : ∃ c, c = cntF ((flat t).take k) x.s := ⟨_, rfl⟩
          have hcl : c ≤ k := by rw [hcc']; exact HCL.out
          rw [← hcc'] at hlk
          obtain ⟨wy, hput, hMY, hgy⟩ := HMX.out.put mstr Tryd.underlying156 (by unfold maxLen; omega) (s := x.s) (by have := HXL.out; unfold maxLen; omega) (.int .i64 ((c : Int) + 1))
          have HMY := Lib.hid (show MapIs Tryd.prog 9 wy mk (k + 1) (cntV ((flat t).take (k + 1))) from hMY.congr fun s => by
            rw [HT.out, cntV_snoc, hcc']
            by_cases h : s = x.s
            · rw [if_pos h, if_pos ⟨HK.out, h⟩]
            · rw [if_neg h, if_neg (fun h' => h h'.2)])
          have HBY := Lib.hid (HBX.out.trans ((grown_but hgy).below (by rw [HKE.out]; exact Nat.le_refl _) HBX.out.size))
          clear hMY hgy hcc' HMX HBX
          go_wp2_with fail
          go_roundw
          case rel => exact ⟨k + 1, by omega, by go_num, HMY, HBY.out⟩
          case measure => simp [intOf]; omega
      · obtain rfl : k = m := by omega
        have HCT := Lib.hid (show MapIs Tryd.prog 9 wr mk k (cntV (flat t)) by
          have := HMI.out
          rwa [List.take_of_length_le (by rw [← HHM.out]; exact Nat.le_refl _)] at this)
        clear HMI hlt HMK HB4 HR
        replace HB := Lib.hid (HB.out.trans ((hbr).mono HB.out.size))
        replace HQ0 := Lib.hid (HQ0.out.below hbr)
        replace HQ2 := Lib.hid (HQ2.out.below hbr)
        replace HM0 := Lib.hid (BodR.below' HM0.out hbr)
        clear q0 q2 f0
        have q0 := HQ0.out.cell 0
        have q2 := HQ2.out.cell 0
        have f0 := HQ0.out.frozen 0
        simp only [List.getElem?_toArray, List.getElem?_cons_zero] at q0 q2
        have HKW := Lib.hid (KC.out wr hbr)
        clear KC hbr
        go_wp2_with fail
        refine HKW.out.mono ?_
        rintro e w5 ⟨A5, c5, vs, rfl, hown5, hall5, hb5⟩
        replace HB := Lib.hid (HB.out.trans ((hb5).mono HB.out.size))
        replace HQ0 := Lib.hid (HQ0.out.below hb5)
        replace HQ2 := Lib.hid (HQ2.out.below hb5)
        replace HM0 := Lib.hid (BodR.below' HM0.out hb5)
        clear q0 q2 f0
        have q0 := HQ0.out.cell 0
        have q2 := HQ2.out.cell 0
        have f0 := HQ0.out.frozen 0
        simp only [List.getElem?_toArray, List.getElem?_cons_zero] at q0 q2
        have HNE := Lib.hid (show mk ≠ mb by have h1 := HBL3.out; have h2 := HKE.out; omega)
        replace HCT := Lib.hid (HCT.out.below hb5)
        have HLV := Lib.hid (hall5.1)
        rw [List.length_map] at hown5 ⊢
        have HO5 := Lib.hid hown5
        have HA5 := Lib.hid hall5
        obtain ⟨n, hn⟩ : ∃ n, n = t.kids.length := ⟨_, rfl⟩
        rw [← hn] at HO5 ⊢
        have HN := Lib.hid hn
        have hnm : n ≤ 4000000 := by
          have h1 := len_flatAll t.kids
          have h2 := flat_kids_le t
          have h4 := HHM.out
          omega
        clear hn hown5 hall5 HKW hb5
        go_upto_region 13 with (fail)
        go_loopw [8, 48] (fun c i wr => ∃ k : Nat, k ≤ n ∧ i = .int .i64 k ∧ c = .int .i64 k ∧ Hid (∀ j (_ : j < k) (h2 : j < t.kids.length), t.kids[j].kind = 31) ∧ Hid (BodR wr mb k (bodyL (flat t) (t.kids.take k))) ∧ But mb w5 wr) (fun _ i _ => n - (intOf i).toNat)
        case atStart => exact ⟨0, Nat.zero_le _, rfl, rfl, Lib.hid (fun j h => absurd h (Nat.not_lt_zero _)), HM0, But.refl _ _⟩
        case round =>
          obtain ⟨k, hk, rfl, rfl, HAL, HMB2, hbr⟩ := hrel
          obtain ⟨es, ckm, hmap⟩ := MapR.isMap HM0.out
          have hq0 := hbr.blk HQ0.out (by have := HG0.out; have := HMB.out; omega)
          have hq2 := hbr.blk HQ2.out (by have := HG2.out; have := HMB.out; omega)
          have p0 := hq0.cell 0
          have p2 := hq2.cell 0
          have fp := hq0.frozen 0
          simp only [List.getElem?_toArray, List.getElem?_cons_zero] at p0 p2
          have HP0 := Lib.hid hq0
          clear q0 q2 f0 hq0 hq2
          by_cases hlt : k < n
          · have hlt' : k < t.kids.length := by rw [← HN.out]; exact hlt
            obtain ⟨b5, o5, vk, rfl, _, hck, hsk⟩ := (KdRd.of_own HO5.out (by rw [List.length_map]; exact HN.out) HA5.out).at_ (k := k) (by rw [List.length_map]; exact hlt')
            rw [List.getElem_map] at hsk
            replace hck := hbr.cell hck (cell_notMap hck hmap)
            replace hsk := SlRd.butMap hsk hmap hbr
            obtain ⟨kt, hkt⟩ : ∃ kt, kt = t.kids[k] := ⟨_, rfl⟩
            rw [← hkt] at hsk
            have HKT := Lib.hid (show ∀ h : k < t.kids.length, kt = t.kids[k] from fun _ => hkt)
            have HMEM := Lib.hid (show kt ∈ t.kids by rw [hkt]; exact List.getElem_mem _)
            have HTK := Lib.hid (show t.kids.take (k + 1) = t.kids.take k ++ [kt] by rw [List.take_succ_eq_append_getElem hlt', hkt])
            have hpk := flat_pos kt
            obtain ⟨Ak, ckk, rfl, hrk, hcl, hcm, _, _⟩ := hsk
            obtain ⟨bk, ok, rfl, _⟩ := hrk.addr hpk
            have hx := (hrk.at_ hpk).2
            rw [flat_get0] at hx
            have c0 := hx 0 _ rfl
            have c4 := hx 4 _ rfl
            simp only [Nat.zero_mul, Nat.add_zero] at c0 c4
            have HRK := Lib.hid hrk
            obtain ⟨mk', hmk'⟩ : ∃ mk', mk' = (flat kt).length := ⟨_, rfl⟩
            rw [← hmk'] at hcl hpk hck
            have HMK' := Lib.hid hmk'
            clear hx hrk hkt hlt' hmk'
            cases hkk : (kt.kind == 31)
            case false =>
              have hkn : (kt.kind != 31) = true := by rw [bne, hkk]; rfl
              have HLE := Lib.hid (show leadF t.kids = t.kids.take k from lead_at t.kids k (by rw [← HN.out]; exact hk) (fun j h => HAL.out j h _) (fun h he => by rw [← HKT.out h] at he; rw [he] at hkk; cases hkk))
              clear hkk c4 hmap
              go_wp2_with fail
              have hq := HP0.out.set 0 (.map (some mb))
              have t0 := hq.cell 0
              simp only [List.getElem?_toArray, List.getElem?_cons_zero, List.setIfInBounds_toArray, List.set_cons_zero] at t0
              have HFN := Lib.hid (show funcL (flat t) = (bodyL (flat t) (t.kids.take k), k) by rw [HFF.out]; unfold bodyF; rw [HLE.out, List.length_take, ← HN.out, Nat.min_eq_left hk])
              have hbw := hbr.below (by rw [HMB.out]; omega) HB.out.size
              refine bodyPost_ret (v := .tuple #[.agg #[.map (some mb)], .int .i64 k]) (by simp [results, Tryd.results71, go_sem, t0]) rfl ⟨mb, k, by rw [HFN.out], by rw [HFN.out]; exact BodR.but HMB2.out HP0.out (by decide) (But.set _ _ _), by omega, by rw [HMB.out]; omega, (HB.out.trans hbw).trans (below_set (by rw [HG0.out]; exact Nat.le_refl _) (HB.out.trans hbw).size _)⟩
            case true =>
              have hkn : (kt.kind != 31) = false := by rw [bne, hkk]; rfl
              have HK31 := Lib.hid (show kt.kind = 31 by simpa using hkk)
              have HSL := Lib.hid (show kt.str.length ≤ 4000000 from (HND.out ⟨kt.kind, kt.num, kt.kids.length, ((flat kt).length : Int), kt.str⟩ (flat_kid HMEM.out (List.mem_iff_getElem.2 ⟨0, flat_pos kt, flat_get0 kt _⟩))).1)
              have hlk := (HCT.out.but hbr HNE.out).look1 mstr Tryd.underlying156 (Tryd.zeroValue3 wr) (s := kt.str) (by have := HSL.out; unfold maxLen; omega)
              rw [cntV_get] at hlk
              have HAL2 := Lib.hid (show ∀ j (_ : j < k + 1) (h2 : j < t.kids.length), t.kids[j].kind = 31 from fun j h h2 => by
                rcases Nat.lt_succ_iff_lt_or_eq.1 h with h | rfl
                · exact HAL.out j h h2
                · rw [← HKT.out h2]; exact HK31.out)
              cases h1 : (((cntF (flat t) kt.str : Nat) : Int) == 1)
              case false =>
                have HBL := Lib.hid (show bodyL (flat t) (t.kids.take (k + 1)) = bodyL (flat t) (t.kids.take k) by
                  rw [HTK.out, bodyL_snoc, if_neg]
                  intro h
                  rw [beq_iff_eq] at h
                  rw [h] at h1
                  cases h1)
                obtain ⟨cq, hcq⟩ : ∃ cq : Int, cq = ((cntF (flat t) kt.str : Nat) : Int) := ⟨_, rfl⟩
                rw [← hcq] at hlk h1
                clear hcq hkk hmap
                go_wp2_with fail
                go_roundw
                case rel => exact ⟨k + 1, by omega, by go_num, by go_num, HAL2, Lib.hid (by rw [HBL.out]; exact MapR.mono HMB2.out (Nat.le_succ k)), hbr⟩
                case measure => simp [intOf]; omega
              case true =>
                have HBL := Lib.hid (show bodyL (flat t) (t.kids.take (k + 1)) = fun s => if s = kt.str then kt.kids.head? else bodyL (flat t) (t.kids.take k) s by
                  rw [HTK.out, bodyL_snoc, if_pos]
                  rw [beq_iff_eq] at h1 ⊢
                  omega)
                obtain ⟨kc, hkc⟩ := fun_kid HOK.out kt HMEM.out HK31.out
                have HFL := Lib.hid (show flat kt = ⟨kt.kind, kt.num, kt.kids.length, ((flat kt).length : Int), kt.str⟩ :: flat kc by
                  obtain ⟨kd', n', s', ks'⟩ := kt
                  simp only [Tr.kids] at hkc
                  subst hkc
                  rw [flat_mk, flatAll_cons, flatAll_nil, List.append_nil]
                  simp [Tr.kind, Tr.num, Tr.kids, Tr.str, Nat.add_comm])
                have hck2 : 2 ≤ mk' := by
                  have h1 := congrArg List.length HFL.out
                  have h2 := flat_pos kc
                  rw [List.length_cons] at h1
                  have := HMK'.out
                  omega
                have hfl : (flat kc).length = mk' - 1 := by
                  have h1 := congrArg List.length HFL.out
                  rw [List.length_cons] at h1
                  have := HMK'.out
                  omega
                have HSR := Lib.hid (show SlRd wr (.slice (some ⟨bk, ok + 5, none⟩) (mk' - 1) (ckk - 1)) (flat kc) from by
                  have h1 := HRK.out.drop 1 (A' := some ⟨bk, ok + 5, none⟩) (fun b' o' he _ => by
                    simp only [Option.some.injEq, Addr.mk.injEq, and_true] at he
                    rw [he.1, ← he.2])
                  rw [HFL.out] at h1
                  exact ⟨some ⟨bk, ok + 5, none⟩, ckk - 1, by rw [hfl], by simpa using h1, by omega, by omega, (fun h => by cases h), trivial⟩)
                have HKC := Lib.hid (show kt.kids.head? = some kc by rw [hkc]; rfl)
                have HQ := Lib.hid h1
                obtain ⟨cq, hcq⟩ : ∃ cq : Int, cq = ((cntF (flat t) kt.str : Nat) : Int) := ⟨_, rfl⟩
                rw [← hcq] at hlk h1
                have HMAP := Lib.hid hmap
                clear hcq hkk hkc hmap
                go_upto_region 18 with (fail)
                have HBR := Lib.hid hbr
                clear hbr hlk
                apply wp_region_relA 8 [eqT _, eqT _, eqT _, eqT _, eqT _, eqT _, eqT _, eqT _] (by kernel_rfl) (by kernel_rfl) (by kernel_rfl) rfl
                focus
                  refine ⟨?_, ?_⟩
                  focus
                    unfold opGoal
                    rw [if_pos (by kernel_rfl)]
                    intro x hb hd K hk
                    clear hd
                    go_wp2_with fail
                    exact hk _ _ rfl trivial (Below.refl _ _)
                  rintro _ rfl
                  simp only [Act.put, List.setIfInBounds_toArray, List.set_cons_succ, List.set_cons_zero]
                  refine ⟨?_, ?_⟩
                  focus
                    unfold opGoal
                    rw [if_pos (by kernel_rfl)]
                    intro x hb hd K hk
                    clear hd
                    have l0 := cell_keep hb p2
                    go_wp2_with fail
                    exact hk _ _ rfl trivial (Below.refl _ _)
                  rintro _ rfl
                  simp only [Act.put, List.setIfInBounds_toArray, List.set_cons_succ, List.set_cons_zero]
                  refine ⟨?_, ?_⟩
                  focus
                    unfold opGoal
                    rw [if_pos (by kernel_rfl)]
                    intro x hb hd K hk
                    clear hd
                    go_wp2_with fail
                    exact hk _ _ rfl trivial (Below.refl _ _)
                  rintro _ rfl
                  simp only [Act.put, List.setIfInBounds_toArray, List.set_cons_succ, List.set_cons_zero]
                  refine ⟨?_, ?_⟩
                  focus
                    unfold opGoal
                    rw [if_pos (by kernel_rfl)]
                    intro x hb hd K hk
                    clear hd
                    go_wp2_with fail
                    exact hk _ _ rfl trivial (Below.refl _ _)
                  rintro _ rfl
                  simp only [Act.put, List.setIfInBounds_toArray, List.set_cons_succ, List.set_cons_zero]
                  refine ⟨?_, ?_⟩
                  focus
                    unfold opGoal
                    rw [if_pos (by kernel_rfl)]
                    intro x hb hd K hk
                    clear hd
                    go_wp2_with fail
                    exact hk _ _ rfl trivial (Below.refl _ _)
                  rintro _ rfl
                  simp only [Act.put, List.setIfInBounds_toArray, List.set_cons_succ, List.set_cons_zero]
                  refine ⟨?_, ?_⟩
                  focus
                    unfold opGoal
                    rw [if_pos (by kernel_rfl)]
                    intro x hb hd K hk
                    clear hd
                    have l0 := cell_keep hb c4
                    go_wp2_with fail
                    exact hk _ _ rfl trivial (Below.refl _ _)
                  rintro _ rfl
                  simp only [Act.put, List.setIfInBounds_toArray, List.set_cons_succ, List.set_cons_zero]
                  refine ⟨?_, ?_⟩
                  focus
                    unfold opGoal
                    rw [if_pos (by kernel_rfl)]
                    intro x hb hd K hk
                    clear hd
                    go_wp2_with fail
                    exact hk _ _ rfl trivial (Below.refl _ _)
                  rintro _ rfl
                  simp only [Act.put, List.setIfInBounds_toArray, List.set_cons_succ, List.set_cons_zero]
                  refine ⟨?_, ?_⟩
                  focus
                    unfold opGoal
                    rw [if_pos (by kernel_rfl)]
                    intro x hb hd K hk
                    clear hd
                    go_wp2_with fail
                    exact hk _ _ rfl trivial (Below.refl _ _)
                  rintro _ rfl
                  simp only [Act.put, List.setIfInBounds_toArray, List.set_cons_succ, List.set_cons_zero]
                  intro x hbx hf
                  clear hf
                  simp only [List.drop_succ_cons, List.drop_zero]
                  obtain ⟨wy, hput, hMY, hby⟩ := BodR.put' (BodR.below' HMB2.out hbx) Tryd.underlying110 (by unfold maxLen; omega) (s := kt.str) (by have := HSL.out; unfold maxLen; omega) (SlRd.below HSR.out hbx)
                  have HMY := Lib.hid (show BodR wy mb (k + 1) (bodyL (flat t) (t.kids.take (k + 1))) by rw [HBL.out, HKC.out]; exact hMY)
                  have HBY := Lib.hid ((HBR.out.trans (But.of hbx)).trans hby)
                  clear hMY hby hbx
                  go_wp2_with fail
                  go_roundw
                  case rel => exact ⟨k + 1, by omega, by go_num, by go_num, HAL2, HMY, HBY.out⟩
                  case measure => simp [intOf]; omega
          · obtain rfl : k = n := by omega
            have HLE := Lib.hid (show leadF t.kids = t.kids.take k from lead_at t.kids k (by rw [← HN.out]; exact hk) (fun j h => HAL.out j h _) (fun h => by rw [← HN.out] at h; exact absurd h hlt))
            clear hmap
            go_wp2_with fail
            have hq := HP0.out.set 0 (.map (some mb))
            have t0 := hq.cell 0
            simp only [List.getElem?_toArray, List.getElem?_cons_zero, List.setIfInBounds_toArray, List.set_cons_zero] at t0
            have HFN := Lib.hid (show funcL (flat t) = (bodyL (flat t) (t.kids.take k), k) by rw [HFF.out]; unfold bodyF; rw [HLE.out, List.length_take, ← HN.out, Nat.min_eq_left hk])
            have hbw := hbr.below (by rw [HMB.out]; omega) HB.out.size
            refine bodyPost_ret (v := .tuple #[.agg #[.map (some mb)], .int .i64 k]) (by simp [results, Tryd.results71, go_sem, t0]) rfl ⟨mb, k, by rw [HFN.out], by rw [HFN.out]; exact BodR.but HMB2.out HP0.out (by decide) (But.set _ _ _), by omega, by rw [HMB.out]; omega, (HB.out.trans hbw).trans (below_set (by rw [HG0.out]; exact Nat.le_refl _) (HB.out.trans hbw).size _)⟩
end Go.Proofs.YtclifaehbdeldaaDoor
