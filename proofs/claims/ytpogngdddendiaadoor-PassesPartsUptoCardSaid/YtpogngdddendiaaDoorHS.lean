/- The walk over inline.functions: which functions are known, and how many stand ahead. Bounds on the lengths. -/
import Derived.Test.YtpogngdddendiaaDoorHR
import Derived.Test.YtpogngdddendiaaDoorCheckW
import Derived.Test.YtpogngdddendiaaDoorHM
import Derived.Test.YtpogngdddendiaaDoorHL
import Derived.Deep.DeepCutAuto
import Derived.Outline
import Derived.Test.YtpogngdddendiaaDoorHN
import Derived.Lib.MinMax
import Derived.WalkSmall
import Derived.Deep.CutBlock
import Derived.Handy
import Derived.Test.YtpogngdddendiaaDoorBase
import Derived.Test.YtpogngdddendiaaDoorHQ
import Derived.Test.YtpogngdddendiaaDoorHB
import Derived.ArgAppend
set_option linter.unusedVariables false
set_option linter.unusedSimpArgs false
namespace Go.Proofs.YtpogngdddendiaaDoor
open Go.RowKit Go.Maps

theorem alloc_sz (w : World) (o : Obj) : (w.alloc o).heap.size = w.heap.size + 1 := by simp
open Classical in
/-- The tree of a list of nodes, where it is a program. -/
noncomputable def theT (L : List Nd) : Option Tr := if h : manyB L = false ∧ ∃ t, okT 30 false t = true ∧ flat t = L then some h.2.choose else none
theorem theT_tree {t : Tr} (hok : okT 30 false t = true) (hn : (flat t).length ≤ 3000) : theT (flat t) = some t := by
  have hm : manyB (flat t) = false := by
    have := flat_pos t
    simp only [manyB, Bool.or_eq_false_iff, beq_eq_false_iff_ne, decide_eq_false_iff_not]
    omega
  unfold theT
  have h : manyB (flat t) = false ∧ ∃ t', okT 30 false t' = true ∧ flat t' = flat t := ⟨hm, t, hok, rfl⟩
  rw [dif_pos h, flat_inj _ h.2.choose t (Nat.le_refl _) h.2.choose_spec.2]
theorem theT_bad {L : List Nd} (h : manyB L = true ∨ checkP L ≠ none) : theT L = none := by
  unfold theT
  rw [dif_neg]
  rintro ⟨h1, h2⟩
  rcases h with h | h
  · rw [h] at h1; cases h1
  · refine h ((check_tree L ?_).2 h2)
    intro h0
    rw [manyB, h0] at h1
    simp at h1
theorem theT_some {L : List Nd} {t : Tr} (h : theT L = some t) : okT 30 false t = true ∧ flat t = L ∧ L.length ≤ 3000 := by
  unfold theT at h
  split at h
  · rename_i hh
    injection h with h
    subst h
    refine ⟨hh.2.choose_spec.1, hh.2.choose_spec.2, ?_⟩
    have := hh.1
    simp only [manyB, Bool.or_eq_false_iff, beq_eq_false_iff_ne, decide_eq_false_iff_not] at this
    omega
  · cases h
def noB : Body := fun _ => none
/-- What is known of a program; how many functions stand ahead. -/
def funOf (t : Tr) : Body × Nat := if t.kind == 23 && !((flat t).any fun x => [36].contains x.kind) then (bodyF (flat t) t.kids, (leadF t.kids).length) else (noB, 0)
noncomputable def funcL (L : List Nd) : Body × Nat := match theT L with
  | none => (noB, 0)
  | some t => funOf t
def FunRet (r : Body × Nat) (w : World) (e : Ending) (w' : World) : Prop :=
  ∃ mb N, e = .returned (.tuple #[.agg #[.map (some mb)], .int .i64 r.2]) ∧ BodR w' mb N r.1 ∧ N ≤ 4000000 ∧ w.heap.size ≤ mb ∧ Below w.heap.size w w'

theorem below_set {n g : Nat} {w : World} (hg : n ≤ g) (hs : n ≤ w.heap.size) (u : Value) : Below n w (w.setCell ⟨g, 0, none⟩ u) := (But.set w 0 u).below hg hs
set_option maxRecDepth 100000 in
set_option maxHeartbeats 4000000 in
theorem funs_any (v : Value) (L : List Nd) (aN aT aM : Addr) (w : World) (hL : L.length ≤ 4000000) (hok : ∀ x ∈ L, NdOk x) (hv : SlRd w v L) (hE : ErrW w aN aT aM) :
    Calls Tryd.prog 112 #[v] w (FunRet (funcL L) w) := by
  obtain ⟨w1, hw1⟩ : ∃ w1, w1 = ((w.alloc (.cells #[.map none] 148)).alloc (.map #[] 0)).alloc (.cells #[.map (some (w.heap.size + 1))] 148) := ⟨_, rfl⟩
  have hba : Below w.heap.size w (w.alloc (.cells #[.map none] 148)) := (Below.refl _ _).alloc (Nat.le_refl _) _
  have hbb := hba.alloc hba.size (.map #[] 0)
  have hbc := hbb.alloc hbb.size (.cells #[.map (some (w.heap.size + 1))] 148)
  obtain ⟨g0, hg0⟩ : ∃ g0, g0 = w.heap.size := ⟨_, rfl⟩
  obtain ⟨mb, hmb⟩ : ∃ mb, mb = w.heap.size + 1 := ⟨_, rfl⟩
  obtain ⟨g2, hg2⟩ : ∃ g2, g2 = w.heap.size + 1 + 1 := ⟨_, rfl⟩
  have hQ0 : Blk w1 g0 148 #[.map none] := by
    rw [hw1, hg0]
    exact (Blk.new w _ _).below ((Below.refl _ _).alloc (Nat.le_refl _) _ |>.alloc (by simp) _)
  have hM0 : BodR w1 mb 0 noB := by
    have := MapR.made bodR (w.alloc (.cells #[.map none] 148))
    rw [alloc_sz, ← hmb] at this
    rw [hw1]
    exact BodR.below' this ((Below.refl _ _).alloc (Nat.le_refl _) _)
  have hQ2 : Blk w1 g2 148 #[.map (some mb)] := by
    have := Blk.new ((w.alloc (.cells #[.map none] 148)).alloc (.map #[] 0)) 148 #[.map (some (w.heap.size + 1))]
    rw [alloc_sz, alloc_sz, ← hg2] at this
    rw [hw1, hmb]
    exact this
  have HB1 := Lib.hid (show Below w.heap.size w w1 by rw [hw1]; exact hbc)
  have HV1 := Lib.hid (hv.below HB1.out)
  have hE1 := hE.below HB1.out
  have HCK := Lib.hid (show Calls Tryd.prog 9 #[v] w1 (CheckRet L aN aT aM w1) by
    obtain ⟨A, c, rfl, hrd, _⟩ := HV1.out
    exact check_any A c L aN aT aM w1 hL hok hrd hE1)
  have HG0 := Lib.hid hg0
  have HMB := Lib.hid hmb
  have HG2 := Lib.hid hg2
  have HQ0 := Lib.hid hQ0
  have HQ2 := Lib.hid hQ2
  have HM0 := Lib.hid hM0
  have HW1 := Lib.hid hw1
  have hmk := fun W => run_makeMap (P := Tryd.prog) 146 W
  clear hw1 hba hbb hbc hg0 hmb hg2 hQ0 hQ2 hM0 hv hE hE1
  go_enter Tryd.func112, Tryd.ntmps112
  go_upto_region 2 with (fail)
  rw [← HW1.out, ← HG2.out, ← HMB.out, ← HG0.out]
  clear hmk
  go_wp2_with fail
  refine HCK.out.mono ?_
  rintro e w2 ⟨v1, rfl, hv1, hb1⟩
  have HV2 := Lib.hid (HV1.out.below hb1)
  have HB := Lib.hid (HB1.out.trans (hb1.mono HB1.out.size))
  replace HQ0 := Lib.hid (HQ0.out.below hb1)
  replace HQ2 := Lib.hid (HQ2.out.below hb1)
  replace HM0 := Lib.hid (BodR.below' HM0.out hb1)
  have q0 := HQ0.out.cell 0
  have q2 := HQ2.out.cell 0
  have f0 := HQ0.out.frozen 0
  simp only [List.getElem?_toArray, List.getElem?_cons_zero] at q0 q2
  clear HCK HV1 HB1 hb1 HW1
  cases hm : manyB L
  case true =>
    rw [hm, if_pos rfl] at hv1
    subst hv1
    have HFN := Lib.hid (show funcL L = (noB, 0) by unfold funcL; rw [theT_bad (.inl hm)])
    clear hm
    have FN := Lib.hid (HFN.out)
    clear HFN
    go_wp2_with fail
    have hq := HQ0.out.set 0 (.map (some mb))
    have t0 := hq.cell 0
    simp only [List.getElem?_toArray, List.getElem?_cons_zero, List.setIfInBounds_toArray, List.set_cons_zero] at t0
    refine bodyPost_ret (v := .tuple #[.agg #[.map (some mb)], .int .i64 0]) (by simp [results, Tryd.results112, go_sem, t0]) rfl ⟨mb, _, by rw [FN.out]; rfl, by rw [FN.out]; exact BodR.but HM0.out HQ0.out (by decide) (But.set _ _ _), by decide, by rw [HMB.out]; omega, HB.out.trans (below_set (by rw [HG0.out]; exact Nat.le_refl _) HB.out.size _)⟩
  case false =>
  rw [hm, if_neg Bool.noConfusion] at hv1
  cases hc : checkP L with
  | some z =>
    obtain ⟨i, nb⟩ := z
    rw [hc] at hv1
    obtain ⟨g, rfl, _⟩ := hv1
    have HFN := Lib.hid (show funcL L = (noB, 0) by unfold funcL; rw [theT_bad (.inr (by rw [hc]; simp))])
    clear hm hc
    have FN := Lib.hid (HFN.out)
    clear HFN
    go_wp2_with fail
    have hq := HQ0.out.set 0 (.map (some mb))
    have t0 := hq.cell 0
    simp only [List.getElem?_toArray, List.getElem?_cons_zero, List.setIfInBounds_toArray, List.set_cons_zero] at t0
    refine bodyPost_ret (v := .tuple #[.agg #[.map (some mb)], .int .i64 0]) (by simp [results, Tryd.results112, go_sem, t0]) rfl ⟨mb, _, by rw [FN.out]; rfl, by rw [FN.out]; exact BodR.but HM0.out HQ0.out (by decide) (But.set _ _ _), by decide, by rw [HMB.out]; omega, HB.out.trans (below_set (by rw [HG0.out]; exact Nat.le_refl _) HB.out.size _)⟩
  | none =>
    rw [hc] at hv1
    obtain rfl : v1 = Value.nilIface := hv1
    obtain ⟨h0, h3⟩ : L.length ≠ 0 ∧ L.length ≤ 3000 := by
      simp only [manyB, Bool.or_eq_false_iff, beq_eq_false_iff_ne, decide_eq_false_iff_not] at hm
      omega
    obtain ⟨t, ht1, ht2⟩ := (check_tree L h0).1 hc
    have HFT := Lib.hid (show funcL L = funOf t by unfold funcL; rw [← ht2, theT_tree ht1 (by rw [ht2]; exact h3)])
    clear hm hc
    subst ht2
    have HOK := Lib.hid ht1
    clear ht1
    obtain ⟨A, cp, rfl, hrd, hcc, hmm, hA, _⟩ := HV2.out
    have hpos : 0 < (flat t).length := flat_pos t
    obtain ⟨b, o, rfl, hbl⟩ := hrd.addr hpos
    have c0 := (hrd.at_ hpos).2 0 _ rfl
    rw [flat_get0] at c0
    simp only [Nat.zero_mul, Nat.add_zero] at c0
    obtain ⟨m, hm⟩ : ∃ m, m = (flat t).length := ⟨_, rfl⟩
    have KC := Lib.hid (fun (W : World) (hW : Below w2.heap.size w2 W) => show Calls Tryd.prog 64 #[.slice (some ⟨b, o, none⟩) m cp] W (KidsRet (t.kids.map flat) W) by
      rw [← kidsL_tree, hm]
      exact kids_any _ _ W (HV2.out.below hW) hL)
    rw [← hm] at hcc hpos h3 ⊢
    have HR := Lib.hid hrd
    have HHM := Lib.hid hm
    have HND := Lib.hid hok
    clear hm hrd HV2 hA h0 hL hok
    cases hk : (t.kind == 23)
    case false =>
      have HFN := Lib.hid (show funcL (flat t) = (noB, 0) by rw [HFT.out]; unfold funOf; rw [hk]; rfl)
      have hkn : (t.kind != 23) = true := by rw [bne, hk]; rfl
      clear hk
      have FN := Lib.hid (HFN.out)
      clear HFN
      go_wp2_with fail
      have hq := HQ0.out.set 0 (.map (some mb))
      have t0 := hq.cell 0
      simp only [List.getElem?_toArray, List.getElem?_cons_zero, List.setIfInBounds_toArray, List.set_cons_zero] at t0
      refine bodyPost_ret (v := .tuple #[.agg #[.map (some mb)], .int .i64 0]) (by simp [results, Tryd.results112, go_sem, t0]) rfl ⟨mb, _, by rw [FN.out]; rfl, by rw [FN.out]; exact BodR.but HM0.out HQ0.out (by decide) (But.set _ _ _), by decide, by rw [HMB.out]; omega, HB.out.trans (below_set (by rw [HG0.out]; exact Nat.le_refl _) HB.out.size _)⟩
    case true =>
    have HK23 := Lib.hid hk
    have hkn : (t.kind != 23) = false := by rw [bne, hk]; rfl
    clear hk
    have hr1 : RdL (w2.alloc (.cells #[.int .i64 36] 3)) 1 intc (some ⟨w2.heap.size, 0, none⟩) [36] := by
      intro k hk
      have hk0 : k = 0 := by simpa using hk
      subst hk0
      refine ⟨w2.heap.size, 0, rfl, (Blk.new w2 _ _).lt, fun j u hu => ?_⟩
      have z0 := (Blk.new w2 3 #[.int .i64 36]).cell 0
      cases j with
      | zero => simp only [intc, List.getElem_cons_zero, List.getElem?_cons_zero, Option.some.injEq] at hu; subst hu; simp
      | succ j => simp [intc] at hu
    have hba : Below w2.heap.size w2 (w2.alloc (.cells #[.int .i64 36] 3)) := (Below.refl _ _).alloc (Nat.le_refl _) _
    have HC := Lib.hid (has_any (some ⟨b, o, none⟩) cp m (flat t) (some ⟨w2.heap.size, 0, none⟩) 1 1 [36] _ HHM.out rfl (HR.out.below hba) (by rw [← HHM.out]; omega) hr1 (by decide))
    have HBA := Lib.hid hba
    clear hr1 hba
    obtain ⟨qa, hqa⟩ : ∃ qa, qa = (flat t).any fun x => [36].contains x.kind := ⟨_, rfl⟩
    rw [← hqa] at HC
    have HQA := Lib.hid hqa
    clear hqa
    go_wp2_with fail
    refine HC.out.mono ?_
    rintro e w3 ⟨rfl, hb3⟩
    have hb23 : Below w2.heap.size w2 w3 := HBA.out.trans (hb3.mono HBA.out.size)
    replace HB := Lib.hid (HB.out.trans ((hb23).mono HB.out.size))
    replace HQ0 := Lib.hid (HQ0.out.below hb23)
    replace HQ2 := Lib.hid (HQ2.out.below hb23)
    replace HM0 := Lib.hid (BodR.below' HM0.out hb23)
    clear q0 q2 f0
    have q0 := HQ0.out.cell 0
    have q2 := HQ2.out.cell 0
    have f0 := HQ0.out.frozen 0
    simp only [List.getElem?_toArray, List.getElem?_cons_zero] at q0 q2
    cases qa
    case true =>
      have HFN := Lib.hid (show funcL (flat t) = (noB, 0) by rw [HFT.out]; unfold funOf; rw [← HQA.out, HK23.out]; rfl)
      have FN := Lib.hid (HFN.out)
      clear HFN
      go_wp2_with fail
      have hq := HQ0.out.set 0 (.map (some mb))
      have t0 := hq.cell 0
      simp only [List.getElem?_toArray, List.getElem?_cons_zero, List.setIfInBounds_toArray, List.set_cons_zero] at t0
      refine bodyPost_ret (v := .tuple #[.agg #[.map (some mb)], .int .i64 0]) (by simp [results, Tryd.results112, go_sem, t0]) rfl ⟨mb, _, by rw [FN.out]; rfl, by rw [FN.out]; exact BodR.but HM0.out HQ0.out (by decide) (But.set _ _ _), by decide, by rw [HMB.out]; omega, HB.out.trans (below_set (by rw [HG0.out]; exact Nat.le_refl _) HB.out.size _)⟩
    case false =>
    have HFF := Lib.hid (show funcL (flat t) = (bodyF (flat t) t.kids, (leadF t.kids).length) by rw [HFT.out]; unfold funOf; rw [← HQA.out, HK23.out]; rfl)
    replace HR := Lib.hid (HR.out.below hb23)
    replace KC := Lib.hid (fun (W : World) (hW : Below w3.heap.size w3 W) => KC.out W (hb23.trans (hW.mono hb23.size)))
    clear HBA HC HQA HFT hb23 hb3 c0 hbl hkn
    have hmk := fun W => run_makeMap (P := Tryd.prog) 180 W
    have hMK := MapIs.made w3 Tryd.prog 9
    have hba : Below w3.heap.size w3 (w3.alloc (.map #[] 0)) := (Below.refl _ _).alloc (Nat.le_refl _) _
    obtain ⟨mk, hmk'⟩ : ∃ mk, mk = w3.heap.size := ⟨_, rfl⟩
    rw [← hmk'] at hMK
    obtain ⟨w4, hw4⟩ : ∃ w4, w4 = w3.alloc (.map #[] 0) := ⟨_, rfl⟩
    rw [← hw4] at hMK hba
    have HW4 := Lib.hid hw4
    have HKE := Lib.hid hmk'
    have HMK := Lib.hid hMK
    have HBL3 := Lib.hid (MapR.lt HM0.out)
    have HB4 := Lib.hid hba
    clear hw4 hmk' hMK hba
    go_upto_region 6 with (fail)
    rw [← HW4.out, ← HKE.out]
    clear hmk HW4
    go_loopw [32] (fun i wr => ∃ k : Nat, k ≤ m ∧ i = .int .i64 k ∧ Hid (MapIs Tryd.prog 9 wr mk k (cntV ((flat t).take k))) ∧ Below w3.heap.size w3 wr) (fun i _ => m - (intOf i).toNat)
    case atStart => exact ⟨0, Nat.zero_le _, rfl, Lib.hid (HMK.out.congr fun s => rfl), HB4.out⟩
    case round =>
      obtain ⟨k, hk, rfl, HMI, hbr⟩ := hrel
      by_cases hlt : k < m
      · have hlt' : k < (flat t).length := by rw [← HHM.out]; exact hlt
        have hc := ((HR.out.below hbr).at_ hlt').2
        obtain ⟨x, hx⟩ : ∃ x, x = (flat t)[k] := ⟨_, rfl⟩
        have HT := Lib.hid (show (flat t).take (k + 1) = (flat t).take k ++ [x] by rw [List.take_succ_eq_append_getElem hlt', hx])
        have HXL := Lib.hid (show x.s.length ≤ 4000000 from (HND.out x (by rw [hx]; exact List.getElem_mem _)).1)
        have HCL := Lib.hid (show cntF ((flat t).take k) x.s ≤ k from Nat.le_trans (cntF_le _ _) (List.length_take_le ..))
        rw [← hx] at hc
        have c0 := hc 0 _ rfl
        have c1 := hc 1 _ rfl
        have c2 := hc 2 _ rfl
        have c3 := hc 3 _ rfl
        have c4 := hc 4 _ rfl
        simp only [Nat.add_zero] at c0
        clear hc hx hlt'
        obtain ⟨wx, hwx⟩ : ∃ wx, wx = wr.alloc (.cells #[.int .i64 x.kind, .int .i64 x.n, .int .i64 x.k, .int .i64 x.size, .string ⟨x.s.toArray⟩] 98) := ⟨_, rfl⟩
        have hbx : Below wr.heap.size wr wx := by rw [hwx]; exact (Below.refl _ _).alloc (Nat.le_refl _) _
        have hBX : Blk wx wr.heap.size 98 #[.int .i64 x.kind, .int .i64 x.n, .int .i64 x.k, .int .i64 x.size, .string ⟨x.s.toArray⟩] := by rw [hwx]; exact Blk.new wr _ _
        have z0 := hBX.cell 0
        have z4 := hBX.cell 4
        simp only [List.getElem?_toArray, List.getElem?_cons_zero, List.getElem?_cons_succ] at z0 z4
        have HWX := Lib.hid hwx
        have HBX := Lib.hid (hbr.trans (hbx.mono hbr.size))
        have HMX := Lib.hid (HMI.out.below hbx)
        clear hbx hBX hwx HMI hbr
        go_upto_region 8 with (fail)
        rw [← HWX.out]
        clear HWX c0 c1 c2 c3 c4
        cases hk31 : (x.kind == 31)
        case false =>
          have HK := Lib.hid hk31
          clear z4
          go_wp2_with fail
          go_roundw
          case rel => exact ⟨k + 1, by omega, by go_num, Lib.hid ((HMX.out.mono (Nat.le_succ k)).congr fun s => by rw [HT.out, cntV_snoc, if_neg (fun h => by have := HK.out; rw [h.1] at this; cases this)]), HBX.out⟩
          case measure => simp [intOf]; omega
        case true =>
          have HK := Lib.hid (show x.kind = 31 by simpa using hk31)
          have hlk := HMX.out.look1 mstr Tryd.underlying180 (Tryd.zeroValue3 wx) (s := x.s) (by have := HXL.out; unfold maxLen; omega)
          rw [cntV_get] at hlk
          obtain ⟨c, hcc'⟩ : ∃ c, c = cntF ((flat t).take k) x.s := ⟨_, rfl⟩
          have hcl : c ≤ k := by rw [hcc']; exact HCL.out
          rw [← hcc'] at hlk
          obtain ⟨wy, hput, hMY, hgy⟩ := HMX.out.put mstr Tryd.underlying180 (by unfold maxLen; omega) (s := x.s) (by have := HXL.out; unfold maxLen; omega) (.int .i64 ((c : Int) + 1))
          have HMY := Lib.hid (show MapIs Tryd.prog 9 wy mk (k + 1) (cntV ((flat t).take (k + 1))) from hMY.congr fun s => by
            rw [HT.out, cntV_snoc, hcc']
            by_cases h : s = x.s
            · rw [if_pos h, if_pos ⟨HK.out, h⟩]
            · rw [if_neg h, if_neg (fun h' => h h'.2)])
          have HBY := Lib.hid (HBX.out.trans ((grown_but hgy).below (by rw [HKE.out]; exact Nat.le_refl _) HBX.out.size))
          clear hMY hgy hcc' HMX HBX
          go_wp2_with fail
          go_roundw
          case rel => exact ⟨k + 1, by omega, by go_num, HMY, HBY.out⟩
          case measure => simp [intOf]; omega
      · obtain rfl : k = m := by omega
        have HCT := Lib.hid (show MapIs Tryd.prog 9 wr mk k (cntV (flat t)) by
          have := HMI.out
          rwa [List.take_of_length_le (by rw [← HHM.out]; exact Nat.le_refl _)] at this)
        clear HMI hlt HMK HB4 HR
        replace HB := Lib.hid (HB.out.trans ((hbr).mono HB.out.size))
        replace HQ0 := Lib.hid (HQ0.out.below hbr)
        replace HQ2 := Lib.hid (HQ2.out.below hbr)
        replace HM0 := Lib.hid (BodR.below' HM0.out hbr)
        clear q0 q2 f0
        have q0 := HQ0.out.cell 0
        have q2 := HQ2.out.cell 0
        have f0 := HQ0.out.frozen 0
        simp only [List.getElem?_toArray, List.getElem?_cons_zero] at q0 q2
        have HKW := Lib.hid (KC.out wr hbr)
        clear KC hbr
        go_wp2_with fail
        refine HKW.out.mono ?_
        rintro e w5 ⟨A5, c5, vs, rfl, hown5, hall5, hb5⟩
        replace HB := Lib.hid (HB.out.trans ((hb5).mono HB.out.size))
        replace HQ0 := Lib.hid (HQ0.out.below hb5)
        replace HQ2 := Lib.hid (HQ2.out.below hb5)
        replace HM0 := Lib.hid (BodR.below' HM0.out hb5)
        clear q0 q2 f0
        have q0 := HQ0.out.cell 0
        have q2 := HQ2.out.cell 0
        have f0 := HQ0.out.frozen 0
        simp only [List.getElem?_toArray, List.getElem?_cons_zero] at q0 q2
        have HNE := Lib.hid (show mk ≠ mb by have h1 := HBL3.out; have h2 := HKE.out; omega)
        replace HCT := Lib.hid (HCT.out.below hb5)
        have HLV := Lib.hid (hall5.1)
        rw [List.length_map] at hown5 ⊢
        have HO5 := Lib.hid hown5
        have HA5 := Lib.hid hall5
        obtain ⟨n, hn⟩ : ∃ n, n = t.kids.length := ⟨_, rfl⟩
        rw [← hn] at HO5 ⊢
        have HN := Lib.hid hn
        have hnm : n ≤ 4000000 := by
          have h1 := len_flatAll t.kids
          have h2 := flat_kids_le t
          have h4 := HHM.out
          omega
        clear hn hown5 hall5 HKW hb5
        go_upto_region 13 with (fail)
        go_loopw [8, 48] (fun c i wr => ∃ k : Nat, k ≤ n ∧ i = .int .i64 k ∧ c = .int .i64 k ∧ Hid (∀ j (_ : j < k) (h2 : j < t.kids.length), t.kids[j].kind = 31) ∧ Hid (BodR wr mb k (bodyL (flat t) (t.kids.take k))) ∧ But mb w5 wr) (fun _ i _ => n - (intOf i).toNat)
        case atStart => exact ⟨0, Nat.zero_le _, rfl, rfl, Lib.hid (fun j h => absurd h (Nat.not_lt_zero _)), HM0, But.refl _ _⟩
        case round =>
          obtain ⟨k, hk, rfl, rfl, HAL, HMB2, hbr⟩ := hrel
          obtain ⟨es, ckm, hmap⟩ := MapR.isMap HM0.out
          have hq0 := hbr.blk HQ0.out (by have := HG0.out; have := HMB.out; omega)
          have hq2 := hbr.blk HQ2.out (by have := HG2.out; have := HMB.out; omega)
          have p0 := hq0.cell 0
          have p2 := hq2.cell 0
          have fp := hq0.frozen 0
          simp only [List.getElem?_toArray, List.getElem?_cons_zero] at p0 p2
          have HP0 := Lib.hid hq0
          clear q0 q2 f0 hq0 hq2
          by_cases hlt : k < n
          · have hlt' : k < t.kids.length := by rw [← HN.out]; exact hlt
            obtain ⟨b5, o5, vk, rfl, _, hck, hsk⟩ := (KdRd.of_own HO5.out (by rw [List.length_map]; exact HN.out) HA5.out).at_ (k := k) (by rw [List.length_map]; exact hlt')
            rw [List.getElem_map] at hsk
            replace hck := hbr.cell hck (cell_notMap hck hmap)
            replace hsk := SlRd.butMap hsk hmap hbr
            obtain ⟨kt, hkt⟩ : ∃ kt, kt = t.kids[k] := ⟨_, rfl⟩
            rw [← hkt] at hsk
            have HKT := Lib.hid (show ∀ h : k < t.kids.length, kt = t.kids[k] from fun _ => hkt)
            have HMEM := Lib.hid (show kt ∈ t.kids by rw [hkt]; exact List.getElem_mem _)
            have HTK := Lib.hid (show t.kids.take (k + 1) = t.kids.take k ++ [kt] by rw [List.take_succ_eq_append_getElem hlt', hkt])
            have hpk := flat_pos kt
            obtain ⟨Ak, ckk, rfl, hrk, hcl, hcm, _, _⟩ := hsk
            obtain ⟨bk, ok, rfl, _⟩ := hrk.addr hpk
            have hx := (hrk.at_ hpk).2
            rw [flat_get0] at hx
            have c0 := hx 0 _ rfl
            have c4 := hx 4 _ rfl
            simp only [Nat.zero_mul, Nat.add_zero] at c0 c4
            have HRK := Lib.hid hrk
            obtain ⟨mk', hmk'⟩ : ∃ mk', mk' = (flat kt).length := ⟨_, rfl⟩
            rw [← hmk'] at hcl hpk hck
            have HMK' := Lib.hid hmk'
            clear hx hrk hkt hlt' hmk'
            cases hkk : (kt.kind == 31)
            case false =>
              have hkn : (kt.kind != 31) = true := by rw [bne, hkk]; rfl
              have HLE := Lib.hid (show leadF t.kids = t.kids.take k from lead_at t.kids k (by rw [← HN.out]; exact hk) (fun j h => HAL.out j h _) (fun h he => by rw [← HKT.out h] at he; rw [he] at hkk; cases hkk))
              clear hkk c4 hmap
              go_wp2_with fail
              have hq := HP0.out.set 0 (.map (some mb))
              have t0 := hq.cell 0
              simp only [List.getElem?_toArray, List.getElem?_cons_zero, List.setIfInBounds_toArray, List.set_cons_zero] at t0
              have HFN := Lib.hid (show funcL (flat t) = (bodyL (flat t) (t.kids.take k), k) by rw [HFF.out]; unfold bodyF; rw [HLE.out, List.length_take, ← HN.out, Nat.min_eq_left hk])
              have hbw := hbr.below (by rw [HMB.out]; omega) HB.out.size
              refine bodyPost_ret (v := .tuple #[.agg #[.map (some mb)], .int .i64 k]) (by simp [results, Tryd.results112, go_sem, t0]) rfl ⟨mb, k, by rw [HFN.out], by rw [HFN.out]; exact BodR.but HMB2.out HP0.out (by decide) (But.set _ _ _), by omega, by rw [HMB.out]; omega, (HB.out.trans hbw).trans (below_set (by rw [HG0.out]; exact Nat.le_refl _) (HB.out.trans hbw).size _)⟩
            case true =>
              have hkn : (kt.kind != 31) = false := by rw [bne, hkk]; rfl
              have HK31 := Lib.hid (show kt.kind = 31 by simpa using hkk)
              have HSL := Lib.hid (show kt.str.length ≤ 4000000 from (HND.out ⟨kt.kind, kt.num, kt.kids.length, ((flat kt).length : Int), kt.str⟩ (flat_kid HMEM.out (List.mem_iff_getElem.2 ⟨0, flat_pos kt, flat_get0 kt _⟩))).1)
              have hlk := (HCT.out.but hbr HNE.out).look1 mstr Tryd.underlying180 (Tryd.zeroValue3 wr) (s := kt.str) (by have := HSL.out; unfold maxLen; omega)
              rw [cntV_get] at hlk
              have HAL2 := Lib.hid (show ∀ j (_ : j < k + 1) (h2 : j < t.kids.length), t.kids[j].kind = 31 from fun j h h2 => by
                rcases Nat.lt_succ_iff_lt_or_eq.1 h with h | rfl
                · exact HAL.out j h h2
                · rw [← HKT.out h2]; exact HK31.out)
              cases h1 : (((cntF (flat t) kt.str : Nat) : Int) == 1)
              case false =>
                have HBL := Lib.hid (show bodyL (flat t) (t.kids.take (k + 1)) = bodyL (flat t) (t.kids.take k) by
                  rw [HTK.out, bodyL_snoc, if_neg]
                  intro h
                  rw [beq_iff_eq] at h
                  rw [h] at h1
                  cases h1)
                obtain ⟨cq, hcq⟩ : ∃ cq : Int, cq = ((cntF (flat t) kt.str : Nat) : Int) := ⟨_, rfl⟩
                rw [← hcq] at hlk h1
                clear hcq hkk hmap
                go_wp2_with fail
                go_roundw
                case rel => exact ⟨k + 1, by omega, by go_num, by go_num, HAL2, Lib.hid (by rw [HBL.out]; exact MapR.mono HMB2.out (Nat.le_succ k)), hbr⟩
                case measure => simp [intOf]; omega
              case true =>
                have HBL := Lib.hid (show bodyL (flat t) (t.kids.take (k + 1)) = fun s => if s = kt.str then kt.kids.head? else bodyL (flat t) (t.kids.take k) s by
                  rw [HTK.out, bodyL_snoc, if_pos]
                  rw [beq_iff_eq] at h1 ⊢
                  omega)
                obtain ⟨kc, hkc⟩ := fun_kid HOK.out kt HMEM.out HK31.out
                have HFL := Lib.hid (show flat kt = ⟨kt.kind, kt.num, kt.kids.length, ((flat kt).length : Int), kt.str⟩ :: flat kc by
                  obtain ⟨kd', n', s', ks'⟩ := kt
                  simp only [Tr.kids] at hkc
                  subst hkc
                  rw [flat_mk, flatAll_cons, flatAll_nil, List.append_nil]
                  simp [Tr.kind, Tr.num, Tr.kids, Tr.str, Nat.add_comm])
                have hck2 : 2 ≤ mk' := by
                  have h1 := congrArg List.length HFL.out
                  have h2 := flat_pos kc
                  rw [List.length_cons] at h1
                  have := HMK'.out
                  omega
                have hfl : (flat kc).length = mk' - 1 := by
                  have h1 := congrArg List.length HFL.out
                  rw [List.length_cons] at h1
                  have := HMK'.out
                  omega
                have HSR := Lib.hid (show SlRd wr (.slice (some ⟨bk, ok + 5, none⟩) (mk' - 1) (ckk - 1)) (flat kc) from by
                  have h1 := HRK.out.drop 1 (A' := some ⟨bk, ok + 5, none⟩) (fun b' o' he _ => by
                    simp only [Option.some.injEq, Addr.mk.injEq, and_true] at he
                    rw [he.1, ← he.2])
                  rw [HFL.out] at h1
                  exact ⟨some ⟨bk, ok + 5, none⟩, ckk - 1, by rw [hfl], by simpa using h1, by omega, by omega, (fun h => by cases h), trivial⟩)
                have HKC := Lib.hid (show kt.kids.head? = some kc by rw [hkc]; rfl)
                have HQ := Lib.hid h1
                obtain ⟨cq, hcq⟩ : ∃ cq : Int, cq = ((cntF (flat t) kt.str : Nat) : Int) := ⟨_, rfl⟩
                rw [← hcq] at hlk h1
                have HMAP := Lib.hid hmap
                clear hcq hkk hkc hmap
                go_upto_region 18 with (fail)
                have HBR := Lib.hid hbr
                clear hbr hlk
                apply wp_region_relA 8 [eqT _, eqT _, eqT _, eqT _, eqT _, eqT _, eqT _, eqT _] (by kernel_rfl) (by kernel_rfl) (by kernel_rfl) rfl
                focus
                  refine ⟨?_, ?_⟩
                  focus
                    unfold opGoal
                    rw [if_pos (by kernel_rfl)]
                    intro x hb hd K hk
                    clear hd
                    go_wp2_with fail
                    exact hk _ _ rfl trivial (Below.refl _ _)
                  rintro _ rfl
                  simp only [Act.put, List.setIfInBounds_toArray, List.set_cons_succ, List.set_cons_zero]
                  refine ⟨?_, ?_⟩
                  focus
                    unfold opGoal
                    rw [if_pos (by kernel_rfl)]
                    intro x hb hd K hk
                    clear hd
                    have l0 := cell_keep hb p2
                    go_wp2_with fail
                    exact hk _ _ rfl trivial (Below.refl _ _)
                  rintro _ rfl
                  simp only [Act.put, List.setIfInBounds_toArray, List.set_cons_succ, List.set_cons_zero]
                  refine ⟨?_, ?_⟩
                  focus
                    unfold opGoal
                    rw [if_pos (by kernel_rfl)]
                    intro x hb hd K hk
                    clear hd
                    go_wp2_with fail
                    exact hk _ _ rfl trivial (Below.refl _ _)
                  rintro _ rfl
                  simp only [Act.put, List.setIfInBounds_toArray, List.set_cons_succ, List.set_cons_zero]
                  refine ⟨?_, ?_⟩
                  focus
                    unfold opGoal
                    rw [if_pos (by kernel_rfl)]
                    intro x hb hd K hk
                    clear hd
                    go_wp2_with fail
                    exact hk _ _ rfl trivial (Below.refl _ _)
                  rintro _ rfl
                  simp only [Act.put, List.setIfInBounds_toArray, List.set_cons_succ, List.set_cons_zero]
                  refine ⟨?_, ?_⟩
                  focus
                    unfold opGoal
                    rw [if_pos (by kernel_rfl)]
                    intro x hb hd K hk
                    clear hd
                    go_wp2_with fail
                    exact hk _ _ rfl trivial (Below.refl _ _)
                  rintro _ rfl
                  simp only [Act.put, List.setIfInBounds_toArray, List.set_cons_succ, List.set_cons_zero]
                  refine ⟨?_, ?_⟩
                  focus
                    unfold opGoal
                    rw [if_pos (by kernel_rfl)]
                    intro x hb hd K hk
                    clear hd
                    have l0 := cell_keep hb c4
                    go_wp2_with fail
                    exact hk _ _ rfl trivial (Below.refl _ _)
                  rintro _ rfl
                  simp only [Act.put, List.setIfInBounds_toArray, List.set_cons_succ, List.set_cons_zero]
                  refine ⟨?_, ?_⟩
                  focus
                    unfold opGoal
                    rw [if_pos (by kernel_rfl)]
                    intro x hb hd K hk
                    clear hd
                    go_wp2_with fail
                    exact hk _ _ rfl trivial (Below.refl _ _)
                  rintro _ rfl
                  simp only [Act.put, List.setIfInBounds_toArray, List.set_cons_succ, List.set_cons_zero]
                  refine ⟨?_, ?_⟩
                  focus
                    unfold opGoal
                    rw [if_pos (by kernel_rfl)]
                    intro x hb hd K hk
                    clear hd
                    go_wp2_with fail
                    exact hk _ _ rfl trivial (Below.refl _ _)
                  rintro _ rfl
                  simp only [Act.put, List.setIfInBounds_toArray, List.set_cons_succ, List.set_cons_zero]
                  intro x hbx hf
                  clear hf
                  simp only [List.drop_succ_cons, List.drop_zero]
                  obtain ⟨wy, hput, hMY, hby⟩ := BodR.put' (BodR.below' HMB2.out hbx) Tryd.underlying146 (by unfold maxLen; omega) (s := kt.str) (by have := HSL.out; unfold maxLen; omega) (SlRd.below HSR.out hbx)
                  have HMY := Lib.hid (show BodR wy mb (k + 1) (bodyL (flat t) (t.kids.take (k + 1))) by rw [HBL.out, HKC.out]; exact hMY)
                  have HBY := Lib.hid ((HBR.out.trans (But.of hbx)).trans hby)
                  clear hMY hby hbx
                  go_wp2_with fail
                  go_roundw
                  case rel => exact ⟨k + 1, by omega, by go_num, by go_num, HAL2, HMY, HBY.out⟩
                  case measure => simp [intOf]; omega
          · obtain rfl : k = n := by omega
            have HLE := Lib.hid (show leadF t.kids = t.kids.take k from lead_at t.kids k (by rw [← HN.out]; exact hk) (fun j h => HAL.out j h _) (fun h => by rw [← HN.out] at h; exact absurd h hlt))
            clear hmap
            go_wp2_with fail
            have hq := HP0.out.set 0 (.map (some mb))
            have t0 := hq.cell 0
            simp only [List.getElem?_toArray, List.getElem?_cons_zero, List.setIfInBounds_toArray, List.set_cons_zero] at t0
            have HFN := Lib.hid (show funcL (flat t) = (bodyL (flat t) (t.kids.take k), k) by rw [HFF.out]; unfold bodyF; rw [HLE.out, List.length_take, ← HN.out, Nat.min_eq_left hk])
            have hbw := hbr.below (by rw [HMB.out]; omega) HB.out.size
            refine bodyPost_ret (v := .tuple #[.agg #[.map (some mb)], .int .i64 k]) (by simp [results, Tryd.results112, go_sem, t0]) rfl ⟨mb, k, by rw [HFN.out], by rw [HFN.out]; exact BodR.but HMB2.out HP0.out (by decide) (But.set _ _ _), by omega, by rw [HMB.out]; omega, (HB.out.trans hbw).trans (below_set (by rw [HG0.out]; exact Nat.le_refl _) (HB.out.trans hbw).size _)⟩
end Go.Proofs.YtpogngdddendiaaDoor

/- The walk over core.Depth, on a tree laid flat. Bounds on the lengths. -/
set_option linter.unusedVariables false
set_option linter.unusedSimpArgs false
namespace Go.Proofs.YtpogngdddendiaaDoor
open Go.RowKit

/-- the level of the node at place i, of size s, with k children -/
theorem down_any (A : Option Addr) (cp m i s : Nat) (L : List Nd) (w : World) (hrd : RdL w 5 ndc A L) (hm : m = L.length) (hi : i < L.length) (hs : i + s ≤ m) (hmm : m ≤ 4000000) :
    Calls Tryd.prog 161 #[.slice A m cp, .int .i64 i, .int .i64 s] w (Ret w (.agg #[.int .i64 ((i : Int) + 1), .int .i64 ((i : Int) + s), .int .i64 L[i].k])) := by
  obtain ⟨b, o, rfl, _, hc⟩ := hrd i hi
  have c2 := hc 2 _ rfl
  have hi2 : i < m := by omega
  generalize L[i].k = K at *
  have hmin : min (s : Int) ((m : Int) - i) = s := by omega
  have d2 := cell_keep (w' := w.alloc (.cells #[.int .i64 0, .int .i64 0, .int .i64 0] 202)) ((Below.refl _ _).alloc (Nat.le_refl _) _) c2
  clear c2 hc hrd hm
  go_enter Tryd.func161, Tryd.ntmps161
  go_wp2_with fail
  go_returns
  exact ⟨rfl, (Below.refl _ _).alloc (Nat.le_refl _) _⟩

/-- What is left below a stack's level: where the next child lies, and the children that are left. -/
def lvc (x : Nat × List Tr) : List Value := [.int .i64 x.1, .int .i64 ((x.1 : Int) + (flatAll x.2).length), .int .i64 x.2.length]
theorem lvc_len (x : Nat × List Tr) : (lvc x).length = 3 := rfl
theorem lvc_one (x : Nat × List Tr) : ∀ u ∈ lvc x, u.oneCell' = true := by
  intro u hu
  simp only [lvc, List.mem_cons, List.not_mem_nil, or_false] at hu
  rcases hu with rfl | rfl | rfl <;> rfl
def Fit (L : List Nd) (x : Nat × List Tr) : Prop := ∃ rest, L.drop x.1 = flatAll x.2 ++ rest
def wtG (G : List (Nat × List Tr)) : Nat := (G.map fun x => 2 * (flatAll x.2).length).sum + G.length
def lsum : List Value → Nat
  | a :: b :: _ :: r => 2 * (intOf b - intOf a).toNat + lsum r
  | _ => 0
theorem lsum_flat : ∀ G : List (Nat × List Tr), lsum (G.flatMap lvc) + G.length = wtG G
  | [] => rfl
  | x :: G => by
    have ih := lsum_flat G
    have h : lsum ((x :: G).flatMap lvc) = 2 * (flatAll x.2).length + lsum (G.flatMap lvc) := by
      rw [List.flatMap_cons]
      show 2 * (((x.1 : Int) + (flatAll x.2).length) - (x.1 : Int)).toNat + lsum (G.flatMap lvc) = _
      congr 2
      omega
    rw [h]
    simp only [wtG, List.map_cons, List.sum_cons, List.length_cons] at ih ⊢
    omega
/-- The measure: out of the stack's own cells. -/
def stMeas (u : Value) (w : World) : Nat := match u with
  | .slice (some p) n _ => match w.heap[p.block]? with
    | some (.cells cs _ _) => lsum (cs.toList.take (n * 3)) + n
    | _ => 0
  | _ => 0
theorem stMeas_own {w : World} {base n g cap : Nat} {G : List (Nat × List Tr)} (h : w.ownsRow base 202 3 (.slice (some ⟨g, 0, none⟩) n cap) n (G.flatMap lvc)) (hn : n = G.length) : stMeas (.slice (some ⟨g, 0, none⟩) n cap) w = wtG G := by
  rcases h.2 with ⟨h', _⟩ | ⟨g', cap', cur, h', hb, hg, hnc, hcm, hcs, htake⟩
  · simp at h'
  · simp only [Value.slice.injEq, Option.some.injEq, Addr.mk.injEq, and_true, true_and] at h'
    obtain ⟨rfl, rfl⟩ := h'
    unfold stMeas
    simp only [hg]
    rw [htake, hn, lsum_flat]
theorem wtG_pop (G : List (Nat × List Tr)) (x : Nat × List Tr) : wtG G < wtG (G ++ [x]) := by
  simp only [wtG, List.map_append, List.map_cons, List.map_nil, List.sum_append, List.sum_cons, List.sum_nil, List.length_append, List.length_cons, List.length_nil]
  omega
theorem wtG_push (G : List (Nat × List Tr)) (c c1 c2 : Nat) (t : Tr) (ts : List Tr) : wtG (G ++ [(c1, ts)] ++ [(c2, t.kids)]) < wtG (G ++ [(c, t :: ts)]) := by
  have h := flat_kids_le t
  simp only [wtG, List.map_append, List.map_cons, List.map_nil, List.sum_append, List.sum_cons, List.sum_nil, List.length_append, List.length_cons, List.length_nil, flatAll_cons]
  omega
theorem infoLevel : (Tryd.prog.info? 202).map (fun i => (i.zero, i.size, i.bytes)) = some (some (.agg #[.int .i64 0, .int .i64 0, .int .i64 0]), 3, 24) := by kernel_rfl
/-- one cell of a block may have been set -/
def SetR (g j : Nat) (v : Value) (x x' : World) : Prop :=
  Below g x x' ∧ x'.heap.size = x.heap.size ∧ (∀ k, k ≠ g → x'.heap[k]? = x.heap[k]?) ∧
  ∀ cs t fr, x.heap[g]? = some (.cells cs t fr) → x'.heap[g]? = some (.cells cs t fr) ∨ x'.heap[g]? = some (.cells (cs.setIfInBounds j v) t fr)
theorem SetR.refl (g j : Nat) (v : Value) (x : World) : SetR g j v x x := ⟨Below.refl _ _, rfl, fun _ _ => rfl, fun _ _ _ h => .inl h⟩
theorem SetR.trans {g j : Nat} {v : Value} {x y z : World} (h : SetR g j v x y) (h' : SetR g j v y z) : SetR g j v x z := by
  refine ⟨h.1.trans h'.1, h'.2.1.trans h.2.1, fun k hk => (h'.2.2.1 k hk).trans (h.2.2.1 k hk), fun cs t fr hx => ?_⟩
  rcases h.2.2.2 cs t fr hx with hy | hy
  · exact h'.2.2.2 cs t fr hy
  · rcases h'.2.2.2 _ t fr hy with hz | hz
    · exact .inr hz
    · refine .inr ?_
      rw [hz, Array.setIfInBounds_setIfInBounds]

theorem depth_le (t : Tr) {n : Nat} (h : (flat t).length ≤ n) : depthT t ≤ n := Nat.le_trans (depthT_len t) h
theorem flat_mapSnd (G : List (Nat × List Tr)) (x : Nat × List Tr) : (G ++ [x]).map (·.2) = G.map (·.2) ++ [x.2] := by simp
theorem lv_snoc (G : List (Nat × List Tr)) (x : Nat × List Tr) : (G ++ [x]).flatMap lvc = G.flatMap lvc ++ lvc x := by simp
theorem lv_len (G : List (Nat × List Tr)) : (G.flatMap lvc).length = G.length * 3 := flat_len lvc_len G

theorem SetR.far {g j : Nat} {v : Value} {x y : World} (h : SetR g j v x y) {p : Addr} {u : Value} (hp : p.block ≠ g) (hx : x.cell? p = some u) : y.cell? p = some u := by
  unfold World.cell? at hx ⊢
  rw [h.2.2.1 _ hp]
  exact hx
theorem SetR.blk {g j : Nat} {v : Value} {x y : World} (h : SetR g j v x y) {t : TypeId} {cs : Array Value} (hx : Blk x g t cs) : Blk y g t cs ∨ Blk y g t (cs.setIfInBounds j v) := h.2.2.2 cs t (0, 0) hx
theorem SetR.other {g j i : Nat} {v u : Value} {x y : World} (h : SetR g j v x y) {t : TypeId} {cs : Array Value} (hx : Blk x g t cs) (hij : j ≠ i) (hu : cs[i]? = some u) : y.cell? ⟨g, i, none⟩ = some u := by
  rcases h.blk hx with hy | hy
  · rw [hy.cell]; exact hu
  · rw [hy.cell, Array.getElem?_setIfInBounds_ne hij]; exact hu
theorem SetR.set {g j : Nat} {v : Value} {x : World} {t : TypeId} {cs : Array Value} (hx : Blk x g t cs) : SetR g j v x (x.setCell ⟨g, j, none⟩ v) := by
  have hb0 : Below g x (x.setCell ⟨g, j, none⟩ v) := (Below.refl g x).setCell (Nat.le_refl _) _
  refine ⟨hb0, by simp [World.setCell], fun k hk => heap_setCell_other x ⟨g, j, none⟩ k v hk, fun cs' t' fr hx' => .inr ?_⟩
  have h1 : (some (Obj.cells cs t (0, 0)) : Option Obj) = some (.cells cs' t' fr) := hx.symm.trans hx'
  injection h1 with h1
  injection h1 with h2 h3 h4
  subst h2 h3 h4
  exact hx.set j v
theorem SetR.drew (g j : Nat) (v : Value) (x : World) : SetR g j v x { x with drawn := x.drawn + 1 } := ⟨(Below.refl _ _).drew, rfl, fun _ _ => rfl, fun _ _ _ h => .inl h⟩
def stT (g j : Nat) (v : Value) (t : TypeId) (cs : Array Value) : TTR (SetR g j v) := ⟨fun _ => True, ⟨undef, trivial⟩, fun _ y => Blk y g t (cs.setIfInBounds j v), fun _ y y' h hr => by
  rcases hr.blk h with h' | h'
  · exact h'
  · rw [Array.setIfInBounds_setIfInBounds] at h'; exact h'⟩
theorem set_tail (P : List Value) (a b d a' d' : Value) : ((P ++ [a, b, d]).set P.length a').set (P.length + 2) d' = P ++ [a', b, d'] := by
  induction P with
  | nil => rfl
  | cons x P ih => simp
/-- A row of its own of which two cells of the last element have been set. -/
theorem own_set2 {w x : World} {base k g cap : Nat} {G : List (Nat × List Tr)} {a b d a' d' : Value} (h : w.ownsRow base 202 3 (.slice (some ⟨g, 0, none⟩) (k + 1) cap) (k + 1) (G.flatMap lvc ++ [a, b, d])) (hk : k = G.length) {cur : Array Value}
    (hg : Blk w g 202 cur) (hx : Blk x g 202 ((cur.setIfInBounds (k * 3) a').setIfInBounds (k * 3 + 2) d')) : x.ownsRow base 202 3 (.slice (some ⟨g, 0, none⟩) (k + 1) cap) (k + 1) (G.flatMap lvc ++ [a', b, d']) := by
  have hl := lv_len G
  rcases h.2 with ⟨h', _⟩ | ⟨g', cap', cur', h', hb, hg', hnc, hcm, hcs, htake⟩
  · simp at h'
  · simp only [Value.slice.injEq, Option.some.injEq, Addr.mk.injEq, and_true, true_and] at h'
    obtain ⟨rfl, rfl⟩ := h'
    have h1 : (some (Obj.cells cur 202 (0, 0)) : Option Obj) = some (.cells cur' 202 (0, 0)) := hg.symm.trans hg'
    injection h1 with h1
    injection h1 with h1
    subst h1
    refine ⟨by simp [hl, hk]; omega, .inr ⟨g, cap, _, rfl, hb, hx, hnc, hcm, by simpa using hcs, ?_⟩⟩
    rw [Array.toList_setIfInBounds, Array.toList_setIfInBounds, List.take_set, List.take_set, htake, ← set_tail (G.flatMap lvc) a b d a' d', hl, hk]
theorem own_blk {w : World} {base n g cap : Nat} {xs : List Value} (h : w.ownsRow base 202 3 (.slice (some ⟨g, 0, none⟩) n cap) n xs) : ∃ cur, Blk w g 202 cur := by
  rcases h.2 with ⟨h', _⟩ | ⟨g', cap', cur', h', hb, hg', _⟩
  · simp at h'
  · simp only [Value.slice.injEq, Option.some.injEq, Addr.mk.injEq, and_true, true_and] at h'
    obtain ⟨rfl, rfl⟩ := h'
    exact ⟨_, hg'⟩
theorem fit_head {L : List Nd} {c : Nat} {t : Tr} {ts : List Tr} (h : Fit L (c, t :: ts)) : c + (flat t).length + (flatAll ts).length ≤ L.length ∧ (∃ hc : c < L.length, L[c] = ⟨t.kind, t.num, t.kids.length, ((flat t).length : Int), t.str⟩) ∧ Fit L (c + (flat t).length, ts) ∧ Fit L (c + 1, t.kids) := by
  obtain ⟨rest, h⟩ := h
  simp only [flatAll_cons] at h
  have hp := flat_pos t
  have hlen := congrArg List.length h
  simp only [List.length_drop, List.length_append] at hlen
  have hc : c < L.length := by omega
  refine ⟨by omega, ⟨hc, ?_⟩, ⟨rest, ?_⟩, ⟨flatAll ts ++ rest, ?_⟩⟩
  · have h0 : (L.drop c)[0]? = some L[c] := by rw [List.getElem?_drop, Nat.add_zero, List.getElem?_eq_getElem hc]
    rw [h, List.append_assoc, List.getElem?_append_left hp, List.getElem?_eq_getElem hp, flat_get0] at h0
    injection h0 with h0
    exact h0.symm
  · show L.drop (c + (flat t).length) = _
    rw [← List.drop_drop, h, List.append_assoc, List.drop_left]
  · show L.drop (c + 1) = _
    rw [← List.drop_drop, h]
    cases t with
    | mk kd n s ks => rw [flat_mk]; simp [Tr.kids]

set_option maxRecDepth 100000 in
set_option maxHeartbeats 8000000 in
theorem depth_any (t : Tr) (v : Value) (w : World) (hv : SlRd w v (flat t)) (hn : (flat t).length ≤ 4000000) : Calls Tryd.prog 138 #[v] w (Ret w (.int .i64 (depthT t))) := by
  obtain ⟨i0, hi, hz0, hz1, hz2⟩ := info_parts infoLevel
  obtain ⟨A, cp, rfl, hrd, hc, hm, hA, hsp⟩ := hv
  obtain ⟨b, o, rfl, hbl⟩ := hrd.addr (flat_pos t)
  have hpos := flat_pos t
  have hx := hrd.at_ hpos
  rw [flat_get0] at hx
  have c3 := hx.2 3 _ rfl
  simp only [Nat.zero_mul, Nat.add_zero] at c3
  clear hx
  obtain ⟨m, hml⟩ : ∃ m, m = (flat t).length := ⟨_, rfl⟩
  have DW := Lib.hid (down_any (some ⟨b, o, none⟩) cp m 0 m (flat t) w hrd hml hpos (by omega) (by omega))
  rw [flat_get0] at DW
  have hkl : t.kids.length ≤ m := by have h1 := len_flatAll t.kids; have h2 := flat_kids_le t; omega
  have hD := depthT_len t
  rw [← hml] at c3 hn hpos hD ⊢
  have HM := Lib.hid hml
  have hfk := flat_kids_le t
  rw [← hml] at hfk
  have HFK := Lib.hid hfk
  clear hml hA hsp hc hfk
  go_enter Tryd.func138, Tryd.ntmps138
  go_wp2_with fail
  refine DW.out.mono ?_
  rintro e w1 ⟨rfl, hb⟩
  clear c3 DW
  have hown0 := World.ownsRow_lit (base := w.heap.size) (e := 202) w1 #[.int .i64 1, .int .i64 m, .int .i64 t.kids.length] 1 (size := 3) hb.size (by decide) rfl
  go_upto_region 5 with (fail)
  go_loopw [3, 4] (fun v u wr => ∃ (most n g cap : Nat) (G : List (Nat × List Tr)), v = .int .i64 most ∧ u = .slice (some ⟨g, 0, none⟩) n cap ∧ Hid (n = G.length) ∧ n ≤ most ∧ most ≤ m ∧ w.heap.size ≤ g ∧
      wr.ownsRow w.heap.size 202 3 (.slice (some ⟨g, 0, none⟩) n cap) n (G.flatMap lvc) ∧ Below w.heap.size w wr ∧ Hid (∀ x ∈ G, Fit (flat t) x) ∧ Hid (max most (depF 1 (G.map (·.2))) = depthT t)) (fun _ u wr => stMeas u wr)
  case atStart =>
    refine ⟨1, 1, w1.heap.size, 1, [(1, t.kids)], rfl, rfl, rfl, Nat.le_refl _, hpos, hb.size, ?_, hb.trans ((Below.refl _ _).alloc hb.size _), ?_, ?_⟩
    · have he : [((1 : Nat), t.kids)].flatMap lvc = (#[Value.int .i64 1, .int .i64 m, .int .i64 t.kids.length] : Array Value).toList := by
        have h := HFK.out
        simp [lvc]
        omega
      rw [he]
      exact hown0
    · intro x hx
      simp only [List.mem_singleton] at hx
      subst hx
      cases t
      exact ⟨[], by rw [flat_mk]; simp [Tr.kids]⟩
    · show max 1 (depF 1 [t.kids]) = depthT t
      simp only [depF, depth_kids]
      omega
  case round =>
    obtain ⟨most, n, g, cap, G, rfl, rfl, HL, hnm, hmm, hg, hown, hbr, HF, HD⟩ := hrel
    have hmeas := stMeas_own hown HL.out
    rcases List.eq_nil_or_concat G with hG | ⟨G0, ⟨c, f⟩, hG⟩
    all_goals try rw [List.concat_eq_append] at hG
    · have hn0 : n = 0 := by rw [HL.out, hG]; rfl
      subst hn0
      have HM2 := Lib.hid (show most = depthT t by rw [← HD.out, hG]; simp [depF])
      clear hmeas hown
      go_wp2_with fail
      go_ret
      exact ⟨by rw [HM2.out]; rfl, hbr⟩
    · obtain ⟨k, hk⟩ : ∃ k, k = G0.length := ⟨_, rfl⟩
      obtain rfl : n = k + 1 := by rw [HL.out, hG, hk]; simp
      subst hG
      rw [lv_snoc] at hown
      have HK := Lib.hid hk
      have hcl : ∀ (j : Nat) (u : Value), (lvc (c, f))[j]? = some u → wr.cell? ⟨g, k * 3 + j, none⟩ = some u := fun j u hu => by
        have hj : j < 3 := by have := (List.getElem?_eq_some_iff.1 hu).1; rwa [lvc_len] at this
        rw [hown.cellAt _ (by omega), List.getElem?_append_right (by rw [lv_len]; omega), lv_len, ← hk, Nat.add_sub_cancel_left]
        exact hu
      have l0 := hcl 0 _ rfl
      have l1 := hcl 1 _ rfl
      have l2 := hcl 2 _ rfl
      simp only [Nat.add_zero] at l0 l1 l2
      clear hcl hk
      have hrdr := hrd.below hbr
      have HMS := Lib.hid hmeas
      have HOW := Lib.hid hown
      clear hmeas hown
      go_upto_region 8 with (fail)
      rcases f with _ | ⟨t', ts⟩
      · have e0 := Later.cell l0
        have e1 := Later.cell l1
        have e2 := Later.cell l2
        simp only [List.length_nil] at e2
        refine wp_region_eq (by kernel_rfl) (by kernel_rfl) ?_
        apply EqGo.run
        focus
          kernel_rfl
        focus
          intro x K hK
          go_wp2_with fail
          first | exact hK x (Below.refl _ _) | exact Below.refl _ _
        simp only [Act.put, List.setIfInBounds_toArray, List.set_cons_succ, List.set_cons_zero]
        apply EqGo.run
        focus
          kernel_rfl
        focus
          intro x K hK
          go_wp2_with fail
          first | exact hK x (Below.refl _ _) | exact Below.refl _ _
        simp only [Act.put, List.setIfInBounds_toArray, List.set_cons_succ, List.set_cons_zero]
        apply EqGo.run
        focus
          kernel_rfl
        focus
          intro x K hK
          go_wp2_with fail
          first | exact hK x (Below.refl _ _) | exact Below.refl _ _
        simp only [Act.put, List.setIfInBounds_toArray, List.set_cons_succ, List.set_cons_zero]
        apply EqGo.run
        focus
          kernel_rfl
        focus
          intro x K hK
          go_wp2_with fail
          first | exact hK x (Below.refl _ _) | exact Below.refl _ _
        simp only [Act.put, List.setIfInBounds_toArray, List.set_cons_succ, List.set_cons_zero]
        apply EqGo.run
        focus
          kernel_rfl
        focus
          intro x K hK
          go_wp2_with fail
          first | exact hK x (Below.refl _ _) | exact Below.refl _ _
        simp only [Act.put, List.setIfInBounds_toArray, List.set_cons_succ, List.set_cons_zero]
        apply EqGo.run
        focus
          kernel_rfl
        focus
          intro x K hK
          go_wp2_with fail
          first | exact hK x (Below.refl _ _) | exact Below.refl _ _
        simp only [Act.put, List.setIfInBounds_toArray, List.set_cons_succ, List.set_cons_zero]
        apply EqGo.skip
        focus
          kernel_rfl
        simp only [Act.put, List.setIfInBounds_toArray, List.set_cons_succ, List.set_cons_zero]
        apply EqGo.skip
        focus
          kernel_rfl
        simp only [Act.put, List.setIfInBounds_toArray, List.set_cons_succ, List.set_cons_zero]
        apply EqGo.skip
        focus
          kernel_rfl
        simp only [Act.put, List.setIfInBounds_toArray, List.set_cons_succ, List.set_cons_zero]
        apply EqGo.skip
        focus
          kernel_rfl
        simp only [Act.put, List.setIfInBounds_toArray, List.set_cons_succ, List.set_cons_zero]
        apply EqGo.skip
        focus
          kernel_rfl
        simp only [Act.put, List.setIfInBounds_toArray, List.set_cons_succ, List.set_cons_zero]
        apply EqGo.skip
        focus
          kernel_rfl
        simp only [Act.put, List.setIfInBounds_toArray, List.set_cons_succ, List.set_cons_zero]
        apply EqGo.run
        focus
          kernel_rfl
        focus
          intro x K hK
          go_wp2_with fail
          first | exact hK x (Below.refl _ _) | exact Below.refl _ _
        simp only [Act.put, List.setIfInBounds_toArray, List.set_cons_succ, List.set_cons_zero]
        apply EqGo.run
        focus
          kernel_rfl
        focus
          intro x K hK
          go_wp2_with fail
          first | exact hK x (Below.refl _ _) | exact Below.refl _ _
        simp only [Act.put, List.setIfInBounds_toArray, List.set_cons_succ, List.set_cons_zero]
        apply EqGo.skip
        focus
          kernel_rfl
        simp only [Act.put, List.setIfInBounds_toArray, List.set_cons_succ, List.set_cons_zero]
        apply EqGo.skip
        focus
          kernel_rfl
        simp only [Act.put, List.setIfInBounds_toArray, List.set_cons_succ, List.set_cons_zero]
        apply EqGo.skip
        focus
          kernel_rfl
        simp only [Act.put, List.setIfInBounds_toArray, List.set_cons_succ, List.set_cons_zero]
        apply EqGo.skip
        focus
          kernel_rfl
        simp only [Act.put, List.setIfInBounds_toArray, List.set_cons_succ, List.set_cons_zero]
        apply EqGo.skip
        focus
          kernel_rfl
        simp only [Act.put, List.setIfInBounds_toArray, List.set_cons_succ, List.set_cons_zero]
        apply EqGo.skip
        focus
          kernel_rfl
        simp only [Act.put, List.setIfInBounds_toArray, List.set_cons_succ, List.set_cons_zero]
        apply EqGo.run
        focus
          kernel_rfl
        focus
          intro x K hK
          go_wp2_with fail
          first | exact hK x (Below.refl _ _) | exact Below.refl _ _
        simp only [Act.put, List.setIfInBounds_toArray, List.set_cons_succ, List.set_cons_zero]
        apply EqGo.run
        focus
          kernel_rfl
        focus
          intro x K hK
          go_wp2_with fail
          first | exact hK x (Below.refl _ _) | exact Below.refl _ _
        simp only [Act.put, List.setIfInBounds_toArray, List.set_cons_succ, List.set_cons_zero]
        apply EqGo.skip
        focus
          kernel_rfl
        simp only [Act.put, List.setIfInBounds_toArray, List.set_cons_succ, List.set_cons_zero]
        apply EqGo.skip
        focus
          kernel_rfl
        simp only [Act.put, List.setIfInBounds_toArray, List.set_cons_succ, List.set_cons_zero]
        apply EqGo.skip
        focus
          kernel_rfl
        simp only [Act.put, List.setIfInBounds_toArray, List.set_cons_succ, List.set_cons_zero]
        apply EqGo.skip
        focus
          kernel_rfl
        simp only [Act.put, List.setIfInBounds_toArray, List.set_cons_succ, List.set_cons_zero]
        apply EqGo.skip
        focus
          kernel_rfl
        simp only [Act.put, List.setIfInBounds_toArray, List.set_cons_succ, List.set_cons_zero]
        apply EqGo.skip
        focus
          kernel_rfl
        simp only [Act.put, List.setIfInBounds_toArray, List.set_cons_succ, List.set_cons_zero]
        apply EqGo.skip
        focus
          kernel_rfl
        simp only [Act.put, List.setIfInBounds_toArray, List.set_cons_succ, List.set_cons_zero]
        apply EqGo.skip
        focus
          kernel_rfl
        simp only [Act.put, List.setIfInBounds_toArray, List.set_cons_succ, List.set_cons_zero]
        apply EqGo.skip
        focus
          kernel_rfl
        simp only [Act.put, List.setIfInBounds_toArray, List.set_cons_succ, List.set_cons_zero]
        apply EqGo.skip
        focus
          kernel_rfl
        simp only [Act.put, List.setIfInBounds_toArray, List.set_cons_succ, List.set_cons_zero]
        apply EqGo.skip
        focus
          kernel_rfl
        simp only [Act.put, List.setIfInBounds_toArray, List.set_cons_succ, List.set_cons_zero]
        apply EqGo.skip
        focus
          kernel_rfl
        simp only [Act.put, List.setIfInBounds_toArray, List.set_cons_succ, List.set_cons_zero]
        apply EqGo.run
        focus
          kernel_rfl
        focus
          intro x K hK
          go_wp2_with fail
          first | exact hK x (Below.refl _ _) | exact Below.refl _ _
        simp only [Act.put, List.setIfInBounds_toArray, List.set_cons_succ, List.set_cons_zero]
        intro x
        clear e0 e1 e2 l0 l1 l2
        have hkc : k ≤ cap := by
          rcases HOW.out.2 with ⟨h', _⟩ | ⟨g', cap', cur', h', hb, hg', hnc, hcm, hcs, htake⟩
          · simp at h'
          · simp only [Value.slice.injEq, Option.some.injEq, Addr.mk.injEq, and_true, true_and] at h'
            omega
        go_wp2_with fail
        have hown' := own_below (ownsRow_pop (by rw [lv_len, HK.out]) HOW.out) x.below
        go_roundw
        case rel =>
          refine ⟨most, k, g, cap, G0, rfl, rfl, HK, by omega, hmm, hg, hown', hbr.trans (x.below.mono hbr.size), Lib.hid (fun y hy => HF.out y (List.mem_append_left _ hy)), Lib.hid ?_⟩
          rw [← HD.out, flat_mapSnd, depF_pop _ _ (by rw [List.length_map, ← HK.out]; exact hnm)]
        case measure =>
          rw [HMS.out, stMeas_own hown' HK.out]
          exact wtG_pop _ _
      · obtain ⟨hfit, ⟨hcl, hnode⟩, hfit1, hfit2⟩ := fit_head (HF.out (c, t' :: ts) (by simp))
        obtain ⟨b', o', he, _, hcells⟩ := hrd c hcl
        simp only [Option.some.injEq, Addr.mk.injEq, and_true] at he
        obtain ⟨rfl, rfl⟩ := he
        rw [hnode] at hcells
        have n3w : w.cell? ⟨b, o + c * 5 + 3, none⟩ = some (.int .i64 ((flat t').length : Int)) := hcells 3 _ rfl
        have n3 := cell_keep hbr n3w
        have HN3 := Lib.hid n3w
        clear n3w
        clear hcells
        rw [← HM.out] at hfit hcl
        have hp' := flat_pos t'
        have HF1 := Lib.hid hfit1
        have HF2 := Lib.hid hfit2
        have HND := Lib.hid hnode
        have HCL := Lib.hid hcl
        obtain ⟨s, hs⟩ : ∃ s, s = (flat t').length := ⟨_, rfl⟩
        obtain ⟨r, hr⟩ : ∃ r, r = (flatAll ts).length := ⟨_, rfl⟩
        have hE : (c : Int) + (flatAll (t' :: ts)).length = ((c + s + r : Nat) : Int) := by rw [flatAll_cons, List.length_append, hs, hr]; omega
        rw [hE] at l1
        rw [← hs] at n3 hfit hp'
        rw [← hr] at hfit
        obtain ⟨q, hq⟩ : ∃ q, q = ts.length := ⟨_, rfl⟩
        have hl2 : ((t' :: ts).length : Int) = (q : Int) + 1 := by rw [hq]; simp
        rw [hl2] at l2
        have hq4 : q ≤ 4000000 := by have := len_flatAll ts; omega
        obtain ⟨E, hEE⟩ : ∃ E : Int, E = ((c + s + r : Nat) : Int) := ⟨_, rfl⟩
        rw [← hEE] at l1
        have HE := Lib.hid hEE
        have HQ := Lib.hid hq
        have HS := Lib.hid hs
        have HR := Lib.hid hr
        have e0 := Later.cell l0
        have e1 := Later.cell l1
        have e2 := Later.cell l2
        have e3 := Later.cell n3
        have hE2 : (c : Int) ≤ E ∧ E ≤ 4000000 := by omega
        have d1 : decide ((q : Int) + 1 ≤ 0) = false := decide_eq_false (by omega)
        have d2 : decide (E ≤ (c : Int)) = false := decide_eq_false (by omega)
        have d3 : decide ((s : Int) < 1) = false := decide_eq_false (by omega)
        have d4 : decide (E - (c : Int) < (s : Int)) = false := decide_eq_false (by omega)
        clear hnode hfit1 hfit2 hE hl2 hEE hq hs hr
        refine wp_region_eq (by kernel_rfl) (by kernel_rfl) ?_
        apply EqGo.run
        focus
          kernel_rfl
        focus
          intro x K hK
          go_wp2_with fail
          first | exact hK x (Below.refl _ _) | exact Below.refl _ _
        simp only [Act.put, List.setIfInBounds_toArray, List.set_cons_succ, List.set_cons_zero]
        apply EqGo.run
        focus
          kernel_rfl
        focus
          intro x K hK
          go_wp2_with fail
          first | exact hK x (Below.refl _ _) | exact Below.refl _ _
        simp only [Act.put, List.setIfInBounds_toArray, List.set_cons_succ, List.set_cons_zero]
        apply EqGo.run
        focus
          kernel_rfl
        focus
          intro x K hK
          go_wp2_with fail
          first | exact hK x (Below.refl _ _) | exact Below.refl _ _
        simp only [Act.put, List.setIfInBounds_toArray, List.set_cons_succ, List.set_cons_zero]
        apply EqGo.run
        focus
          kernel_rfl
        focus
          intro x K hK
          go_wp2_with fail
          first | exact hK x (Below.refl _ _) | exact Below.refl _ _
        simp only [Act.put, List.setIfInBounds_toArray, List.set_cons_succ, List.set_cons_zero]
        apply EqGo.run
        focus
          kernel_rfl
        focus
          intro x K hK
          go_wp2_with fail
          first | exact hK x (Below.refl _ _) | exact Below.refl _ _
        simp only [Act.put, List.setIfInBounds_toArray, List.set_cons_succ, List.set_cons_zero]
        apply EqGo.run
        focus
          kernel_rfl
        focus
          intro x K hK
          go_wp2_with fail
          first | exact hK x (Below.refl _ _) | exact Below.refl _ _
        simp only [Act.put, List.setIfInBounds_toArray, List.set_cons_succ, List.set_cons_zero]
        apply EqGo.run
        focus
          kernel_rfl
        focus
          intro x K hK
          go_wp2_with fail
          first | exact hK x (Below.refl _ _) | exact Below.refl _ _
        simp only [Act.put, List.setIfInBounds_toArray, List.set_cons_succ, List.set_cons_zero]
        apply EqGo.run
        focus
          kernel_rfl
        focus
          intro x K hK
          go_wp2_with fail
          first | exact hK x (Below.refl _ _) | exact Below.refl _ _
        simp only [Act.put, List.setIfInBounds_toArray, List.set_cons_succ, List.set_cons_zero]
        apply EqGo.run
        focus
          kernel_rfl
        focus
          intro x K hK
          go_wp2_with fail
          first | exact hK x (Below.refl _ _) | exact Below.refl _ _
        simp only [Act.put, List.setIfInBounds_toArray, List.set_cons_succ, List.set_cons_zero]
        apply EqGo.run
        focus
          kernel_rfl
        focus
          intro x K hK
          go_wp2_with fail
          first | exact hK x (Below.refl _ _) | exact Below.refl _ _
        simp only [Act.put, List.setIfInBounds_toArray, List.set_cons_succ, List.set_cons_zero]
        apply EqGo.run
        focus
          kernel_rfl
        focus
          intro x K hK
          go_wp2_with fail
          first | exact hK x (Below.refl _ _) | exact Below.refl _ _
        simp only [Act.put, List.setIfInBounds_toArray, List.set_cons_succ, List.set_cons_zero]
        apply EqGo.run
        focus
          kernel_rfl
        focus
          intro x K hK
          go_wp2_with fail
          first | exact hK x (Below.refl _ _) | exact Below.refl _ _
        simp only [Act.put, List.setIfInBounds_toArray, List.set_cons_succ, List.set_cons_zero]
        apply EqGo.run
        focus
          kernel_rfl
        focus
          intro x K hK
          go_wp2_with fail
          first | exact hK x (Below.refl _ _) | exact Below.refl _ _
        simp only [Act.put, List.setIfInBounds_toArray, List.set_cons_succ, List.set_cons_zero]
        apply EqGo.run
        focus
          kernel_rfl
        focus
          intro x K hK
          go_wp2_with fail
          first | exact hK x (Below.refl _ _) | exact Below.refl _ _
        simp only [Act.put, List.setIfInBounds_toArray, List.set_cons_succ, List.set_cons_zero]
        apply EqGo.run
        focus
          kernel_rfl
        focus
          intro x K hK
          go_wp2_with fail
          first | exact hK x (Below.refl _ _) | exact Below.refl _ _
        simp only [Act.put, List.setIfInBounds_toArray, List.set_cons_succ, List.set_cons_zero]
        apply EqGo.run
        focus
          kernel_rfl
        focus
          intro x K hK
          go_wp2_with fail
          first | exact hK x (Below.refl _ _) | exact Below.refl _ _
        simp only [Act.put, List.setIfInBounds_toArray, List.set_cons_succ, List.set_cons_zero]
        apply EqGo.run
        focus
          kernel_rfl
        focus
          intro x K hK
          go_wp2_with fail
          first | exact hK x (Below.refl _ _) | exact Below.refl _ _
        simp only [Act.put, List.setIfInBounds_toArray, List.set_cons_succ, List.set_cons_zero]
        apply EqGo.run
        focus
          kernel_rfl
        focus
          intro x K hK
          go_wp2_with fail
          first | exact hK x (Below.refl _ _) | exact Below.refl _ _
        simp only [Act.put, List.setIfInBounds_toArray, List.set_cons_succ, List.set_cons_zero]
        apply EqGo.run
        focus
          kernel_rfl
        focus
          intro x K hK
          go_wp2_with fail
          first | exact hK x (Below.refl _ _) | exact Below.refl _ _
        simp only [Act.put, List.setIfInBounds_toArray, List.set_cons_succ, List.set_cons_zero]
        apply EqGo.run
        focus
          kernel_rfl
        focus
          intro x K hK
          go_wp2_with fail
          first | exact hK x (Below.refl _ _) | exact Below.refl _ _
        simp only [Act.put, List.setIfInBounds_toArray, List.set_cons_succ, List.set_cons_zero]
        apply EqGo.run
        focus
          kernel_rfl
        focus
          intro x K hK
          go_wp2_with fail
          first | exact hK x (Below.refl _ _) | exact Below.refl _ _
        simp only [Act.put, List.setIfInBounds_toArray, List.set_cons_succ, List.set_cons_zero]
        apply EqGo.run
        focus
          kernel_rfl
        focus
          intro x K hK
          go_wp2_with fail
          first | exact hK x (Below.refl _ _) | exact Below.refl _ _
        simp only [Act.put, List.setIfInBounds_toArray, List.set_cons_succ, List.set_cons_zero]
        apply EqGo.run
        focus
          kernel_rfl
        focus
          intro x K hK
          go_wp2_with fail
          first | exact hK x (Below.refl _ _) | exact Below.refl _ _
        simp only [Act.put, List.setIfInBounds_toArray, List.set_cons_succ, List.set_cons_zero]
        apply EqGo.run
        focus
          kernel_rfl
        focus
          intro x K hK
          go_wp2_with fail
          first | exact hK x (Below.refl _ _) | exact Below.refl _ _
        simp only [Act.put, List.setIfInBounds_toArray, List.set_cons_succ, List.set_cons_zero]
        apply EqGo.run
        focus
          kernel_rfl
        focus
          intro x K hK
          go_wp2_with fail
          first | exact hK x (Below.refl _ _) | exact Below.refl _ _
        simp only [Act.put, List.setIfInBounds_toArray, List.set_cons_succ, List.set_cons_zero]
        apply EqGo.run
        focus
          kernel_rfl
        focus
          intro x K hK
          go_wp2_with fail
          first | exact hK x (Below.refl _ _) | exact Below.refl _ _
        simp only [Act.put, List.setIfInBounds_toArray, List.set_cons_succ, List.set_cons_zero]
        apply EqGo.run
        focus
          kernel_rfl
        focus
          intro x K hK
          go_wp2_with fail
          first | exact hK x (Below.refl _ _) | exact Below.refl _ _
        simp only [Act.put, List.setIfInBounds_toArray, List.set_cons_succ, List.set_cons_zero]
        apply EqGo.run
        focus
          kernel_rfl
        focus
          intro x K hK
          go_wp2_with fail
          first | exact hK x (Below.refl _ _) | exact Below.refl _ _
        simp only [Act.put, List.setIfInBounds_toArray, List.set_cons_succ, List.set_cons_zero]
        apply EqGo.run
        focus
          kernel_rfl
        focus
          intro x K hK
          go_wp2_with fail
          first | exact hK x (Below.refl _ _) | exact Below.refl _ _
        simp only [Act.put, List.setIfInBounds_toArray, List.set_cons_succ, List.set_cons_zero]
        apply EqGo.run
        focus
          kernel_rfl
        focus
          intro x K hK
          go_wp2_with fail
          first | exact hK x (Below.refl _ _) | exact Below.refl _ _
        simp only [Act.put, List.setIfInBounds_toArray, List.set_cons_succ, List.set_cons_zero]
        apply EqGo.run
        focus
          kernel_rfl
        focus
          intro x K hK
          go_wp2_with fail
          first | exact hK x (Below.refl _ _) | exact Below.refl _ _
        simp only [Act.put, List.setIfInBounds_toArray, List.set_cons_succ, List.set_cons_zero]
        apply EqGo.run
        focus
          kernel_rfl
        focus
          intro x K hK
          go_wp2_with fail
          first | exact hK x (Below.refl _ _) | exact Below.refl _ _
        simp only [Act.put, List.setIfInBounds_toArray, List.set_cons_succ, List.set_cons_zero]
        apply EqGo.run
        focus
          kernel_rfl
        focus
          intro x K hK
          go_wp2_with fail
          first | exact hK x (Below.refl _ _) | exact Below.refl _ _
        simp only [Act.put, List.setIfInBounds_toArray, List.set_cons_succ, List.set_cons_zero]
        apply EqGo.run
        focus
          kernel_rfl
        focus
          intro x K hK
          go_wp2_with fail
          first | exact hK x (Below.refl _ _) | exact Below.refl _ _
        simp only [Act.put, List.setIfInBounds_toArray, List.set_cons_succ, List.set_cons_zero]
        apply EqGo.run
        focus
          kernel_rfl
        focus
          intro x K hK
          go_wp2_with fail
          first | exact hK x (Below.refl _ _) | exact Below.refl _ _
        simp only [Act.put, List.setIfInBounds_toArray, List.set_cons_succ, List.set_cons_zero]
        intro x
        clear e0 e1 e2 e3
        obtain ⟨cur, hcur⟩ := own_blk HOW.out
        have hcx := hcur.below x.below
        have n3x := cell_keep x.below n3
        have hc2 : cur[k * 3 + 2]? = some (.int .i64 ((q : Int) + 1)) := by rw [← hcur.cell]; exact l2
        have hc0 : k * 3 < cur.size ∧ k * 3 + 2 < cur.size := by
          have h2 := (Array.getElem?_eq_some_iff.1 hc2).1
          exact ⟨by omega, h2⟩
        have HBG := Lib.hid (show (⟨b, o + c * 5 + 3, none⟩ : Addr).block ≠ g from by show b ≠ g; omega)
        have HCU := Lib.hid hcx
        have HCR := Lib.hid hcur
        have HC0 := Lib.hid hc0
        have hbx := hbr.trans (x.below.mono hbr.size)
        have HXB := Lib.hid x.below
        generalize x.val = X at *
        clear hcur hcx hc0 l0 l1 l2 n3
        go_upto_region 10 with (fail)
        clear d1 d2 d3 d4
        apply wp_region_relT (R := SetR g (k * 3) (.int .i64 ((c : Int) + s))) (SetR.refl _ _ _) (fun h1 h2 => h1.trans h2) (SetR.drew _ _ _ _) 17
          [eqT _, eqT _, eqT _, eqT _, eqT _, eqT _, eqT _, eqT _, eqT _, eqT _, eqT _, eqT _, eqT _, eqT _, eqT _, eqT _, stT g (k * 3) (.int .i64 ((c : Int) + s)) 202 cur] (by kernel_rfl) (by kernel_rfl) (by kernel_rfl) rfl
        refine ⟨?_, ?_⟩
        focus
          unfold opGoal
          rw [if_pos (by kernel_rfl)]
          intro x hb hd K hk
          clear hd
          go_wp2_with fail
          exact hk _ _ rfl trivial (SetR.refl _ _ _ _)
        rintro _ rfl
        simp only [Act.put, List.setIfInBounds_toArray, List.set_cons_succ, List.set_cons_zero]
        refine ⟨?_, ?_⟩
        focus
          unfold opGoal
          rw [if_pos (by kernel_rfl)]
          intro x hb hd K hk
          clear hd
          go_wp2_with fail
          exact hk _ _ rfl trivial (SetR.refl _ _ _ _)
        rintro _ rfl
        simp only [Act.put, List.setIfInBounds_toArray, List.set_cons_succ, List.set_cons_zero]
        refine ⟨?_, ?_⟩
        focus
          unfold opGoal
          rw [if_pos (by kernel_rfl)]
          intro x hb hd K hk
          clear hd
          go_wp2_with fail
          exact hk _ _ rfl trivial (SetR.refl _ _ _ _)
        rintro _ rfl
        simp only [Act.put, List.setIfInBounds_toArray, List.set_cons_succ, List.set_cons_zero]
        refine ⟨?_, ?_⟩
        focus
          unfold opGoal
          rw [if_pos (by kernel_rfl)]
          intro x hb hd K hk
          clear hd
          go_wp2_with fail
          exact hk _ _ rfl trivial (SetR.refl _ _ _ _)
        rintro _ rfl
        simp only [Act.put, List.setIfInBounds_toArray, List.set_cons_succ, List.set_cons_zero]
        refine ⟨?_, ?_⟩
        focus
          unfold opGoal
          rw [if_pos (by kernel_rfl)]
          intro x hb hd K hk
          clear hd
          go_wp2_with fail
          exact hk _ _ rfl trivial (SetR.refl _ _ _ _)
        rintro _ rfl
        simp only [Act.put, List.setIfInBounds_toArray, List.set_cons_succ, List.set_cons_zero]
        refine ⟨?_, ?_⟩
        focus
          unfold opGoal
          rw [if_pos (by kernel_rfl)]
          intro x hb hd K hk
          clear hd
          go_wp2_with fail
          exact hk _ _ rfl trivial (SetR.refl _ _ _ _)
        rintro _ rfl
        simp only [Act.put, List.setIfInBounds_toArray, List.set_cons_succ, List.set_cons_zero]
        refine ⟨?_, ?_⟩
        focus
          unfold opGoal
          rw [if_pos (by kernel_rfl)]
          intro x hb hd K hk
          clear hd
          go_wp2_with fail
          exact hk _ _ rfl trivial (SetR.refl _ _ _ _)
        rintro _ rfl
        simp only [Act.put, List.setIfInBounds_toArray, List.set_cons_succ, List.set_cons_zero]
        refine ⟨?_, ?_⟩
        focus
          unfold opGoal
          rw [if_pos (by kernel_rfl)]
          intro x hb hd K hk
          clear hd
          have l0 := hb.far HBG.out n3x
          go_wp2_with fail
          exact hk _ _ rfl trivial (SetR.refl _ _ _ _)
        rintro _ rfl
        simp only [Act.put, List.setIfInBounds_toArray, List.set_cons_succ, List.set_cons_zero]
        refine ⟨?_, ?_⟩
        focus
          unfold opGoal
          rw [if_pos (by kernel_rfl)]
          intro x hb hd K hk
          clear hd
          go_wp2_with fail
          exact hk _ _ rfl trivial (SetR.refl _ _ _ _)
        rintro _ rfl
        simp only [Act.put, List.setIfInBounds_toArray, List.set_cons_succ, List.set_cons_zero]
        refine ⟨?_, ?_⟩
        focus
          unfold opGoal
          rw [if_pos (by kernel_rfl)]
          intro x hb hd K hk
          clear hd
          go_wp2_with fail
          exact hk _ _ rfl trivial (SetR.refl _ _ _ _)
        rintro _ rfl
        simp only [Act.put, List.setIfInBounds_toArray, List.set_cons_succ, List.set_cons_zero]
        refine ⟨?_, ?_⟩
        focus
          unfold opGoal
          rw [if_pos (by kernel_rfl)]
          intro x hb hd K hk
          clear hd
          go_wp2_with fail
          exact hk _ _ rfl trivial (SetR.refl _ _ _ _)
        rintro _ rfl
        simp only [Act.put, List.setIfInBounds_toArray, List.set_cons_succ, List.set_cons_zero]
        refine ⟨?_, ?_⟩
        focus
          unfold opGoal
          rw [if_pos (by kernel_rfl)]
          intro x hb hd K hk
          clear hd
          go_wp2_with fail
          exact hk _ _ rfl trivial (SetR.refl _ _ _ _)
        rintro _ rfl
        simp only [Act.put, List.setIfInBounds_toArray, List.set_cons_succ, List.set_cons_zero]
        refine ⟨?_, ?_⟩
        focus
          unfold opGoal
          rw [if_pos (by kernel_rfl)]
          intro x hb hd K hk
          clear hd
          have l0 := hb.other HCU.out (by omega) hc2
          go_wp2_with fail
          exact hk _ _ rfl trivial (SetR.refl _ _ _ _)
        rintro _ rfl
        simp only [Act.put, List.setIfInBounds_toArray, List.set_cons_succ, List.set_cons_zero]
        refine ⟨?_, ?_⟩
        focus
          unfold opGoal
          rw [if_pos (by kernel_rfl)]
          intro x hb hd K hk
          clear hd
          go_wp2_with fail
          exact hk _ _ rfl trivial (SetR.refl _ _ _ _)
        rintro _ rfl
        simp only [Act.put, List.setIfInBounds_toArray, List.set_cons_succ, List.set_cons_zero]
        refine ⟨?_, ?_⟩
        focus
          unfold opGoal
          rw [if_pos (by kernel_rfl)]
          intro x hb hd K hk
          clear hd
          go_wp2_with fail
          exact hk _ _ rfl trivial (SetR.refl _ _ _ _)
        rintro _ rfl
        simp only [Act.put, List.setIfInBounds_toArray, List.set_cons_succ, List.set_cons_zero]
        refine ⟨?_, ?_⟩
        focus
          unfold opGoal
          rw [if_pos (by kernel_rfl)]
          intro x hb hd K hk
          clear hd
          go_wp2_with fail
          exact hk _ _ rfl trivial (SetR.refl _ _ _ _)
        rintro _ rfl
        simp only [Act.put, List.setIfInBounds_toArray, List.set_cons_succ, List.set_cons_zero]
        refine ⟨?_, ?_⟩
        focus
          unfold opGoal
          rw [if_pos (by kernel_rfl)]
          intro x hb hd K hk
          clear hd
          obtain ⟨cu, hcu, hcu2⟩ : ∃ cu, Blk x g 202 cu ∧ (cu = cur ∨ cu = cur.setIfInBounds (k * 3) (.int .i64 ((c : Int) + s))) := (hb.blk HCU.out).elim (fun h => ⟨_, h, .inl rfl⟩) (fun h => ⟨_, h, .inr rfl⟩)
          have hlt : k * 3 < cu.size := by
            have := HC0.out.1
            rcases hcu2 with rfl | rfl
            · exact this
            · simpa using this
          have z0 := hcu.cell (k * 3)
          rw [Array.getElem?_eq_getElem hlt] at z0
          have q0 := hcu.frozen (k * 3)
          have H1 := Lib.hid hcu
          have H2 := Lib.hid hcu2
          clear hcu hcu2
          generalize cu[k * 3] = u9 at *
          clear hlt
          go_wp2_with fail
          refine hk undef _ trivial ?_ (SetR.set H1.out)
          have h3 := H1.out.set (k * 3) (.int .i64 ((c : Int) + s))
          rcases H2.out with h | h
          · rw [h] at h3; exact h3
          · rw [h, Array.setIfInBounds_setIfInBounds] at h3; exact h3
        rintro v9 _
        simp only [Act.put]
        intro x hbx hf
        simp only [List.drop_succ_cons, List.drop_zero]
        have hB : Blk x g 202 (cur.setIfInBounds (k * 3) (.int .i64 ((c : Int) + s))) := hf 16 _ _ rfl rfl
        clear hf
        have hc22 : (cur.setIfInBounds (k * 3) (.int .i64 ((c : Int) + s)))[k * 3 + 2]? = some (.int .i64 ((q : Int) + 1)) := by rw [Array.getElem?_setIfInBounds_ne (by omega)]; exact hc2
        have z2 := hB.cell (k * 3 + 2)
        rw [hc22] at z2
        have q2 := hB.frozen (k * 3 + 2)
        have HBX := Lib.hid hB
        have HSX := Lib.hid hbx
        clear hB hc22 hbx
        go_upto_region 11 with (fail)
        obtain ⟨F, hF⟩ : ∃ F, F = x.setCell ⟨g, k * 3 + 2, none⟩ (.int .i64 q) := ⟨_, rfl⟩
        rw [← hF]
        have hBF : Blk F g 202 ((cur.setIfInBounds (k * 3) (.int .i64 ((c : Int) + s))).setIfInBounds (k * 3 + 2) (.int .i64 q)) := by rw [hF]; exact HBX.out.set _ _
        have hbF : Below w.heap.size w F := by
          rw [hF]
          exact (hbx.trans (HSX.out.1.mono hg)).setCell hg _
        have HE2 := Lib.hid (HE.out)
        have HOF := Lib.hid (show F.ownsRow w.heap.size 202 3 (.slice (some ⟨g, 0, none⟩) (k + 1) cap) (k + 1) ((G0 ++ [(c + s, ts)]).flatMap lvc) by
          have h9 := own_set2 (a' := .int .i64 ((c : Int) + s)) (d' := .int .i64 q) HOW.out HK.out HCR.out hBF
          have he : lvc (c + s, ts) = [.int .i64 ((c : Int) + s), .int .i64 ((c : Int) + (flatAll (t' :: ts)).length), .int .i64 q] := by
            have h1 := HS.out
            have h2 := HQ.out
            simp only [lvc, flatAll_cons, List.length_append, ← h1, ← h2, List.cons.injEq, Value.int.injEq, true_and, and_true]
            omega
          rw [lv_snoc, he]
          exact h9)
        have n3F := cell_keep hbF HN3.out
        rw [← HS.out] at n3F
        have DW := Lib.hid (down_any (some ⟨b, o, none⟩) cp m c s (flat t) F (hrd.below hbF) HM.out (by rw [← HM.out]; exact HCL.out) (by omega) (by omega))
        rw [HND.out] at DW
        simp only at DW
        have hcm : c < m := by omega
        have hkm : k + 2 ≤ m + 1 := by omega
        clear hF hBF z2 q2 n3x hc2
        go_wp2_with fail
        refine DW.out.mono ?_
        rintro e w5 ⟨rfl, hb5⟩
        have hown5 := own_below HOF.out hb5
        have hb5w := hbF.trans (hb5.mono hbF.size)
        clear DW n3F
        go_wp2_with (at_builtin; refine wpList_push rfl _ _ _ rfl Tryd.underlying204 hi hz0 hz1 hz2 rfl (by decide) hown5 rfl rfl rfl (by simp [Value.oneCell']) (by omega) (by decide) hb5w.size ?_; intro A6 c6 w6 hown6 hb6 hoo6)
        obtain ⟨g6, hg6, rfl⟩ : ∃ g6, w.heap.size ≤ g6 ∧ A6 = some ⟨g6, 0, none⟩ := by
          rcases hown6.2 with ⟨he, h0⟩ | ⟨g9, cap9, cur9, he, hb9, _⟩
          · omega
          · injection he with he1 _ _
            exact ⟨g9, hb9, he1⟩
        have he6 : List.flatMap lvc (G0 ++ [(c + s, ts)]) ++ (#[Value.int IntKind.i64 ((c : Int) + 1), Value.int IntKind.i64 ((c : Int) + s), Value.int IntKind.i64 t'.kids.length] : Array Value).toList = (G0 ++ [(c + s, ts)] ++ [(c + 1, t'.kids)]).flatMap lvc := by
          rw [lv_snoc (G0 ++ [(c + s, ts)])]
          have h1 := HS.out
          have h2 := flat_kids_le t'
          simp only [lvc, List.append_cancel_left_eq, List.cons.injEq, Value.int.injEq, true_and, and_true]
          omega
        rw [he6] at hown6
        have hmax : max (most : Int) ((k : Int) + 1 + 1) = ((max most (k + 2) : Nat) : Int) := by omega
        have hpush := depF_push (G0.map (·.2)) t' ts most
        rw [List.length_map, ← HK.out] at hpush
        have hDD := HD.out
        rw [flat_mapSnd] at hDD
        have hk2 : max most (k + 2) ≤ m := by
          have h9 := hpush.trans hDD
          omega
        go_roundw
        case rel =>
          refine ⟨max most (k + 2), k + 2, g6, c6, G0 ++ [(c + s, ts)] ++ [(c + 1, t'.kids)], ?_, rfl, Lib.hid (by rw [HK.out]; simp), by omega, by omega, hg6, hown6, hb5w.trans hb6, Lib.hid ?_, Lib.hid ?_⟩
          · rw [hmax]
          · intro y hy
            simp only [List.mem_append, List.mem_singleton] at hy
            rcases hy with (hy | rfl) | rfl
            · exact HF.out y (List.mem_append_left _ hy)
            · rw [HS.out]; exact HF1.out
            · exact HF2.out
          · rw [← hDD, ← hpush]
            simp
        case measure =>
          rw [HMS.out, stMeas_own hown6 (by rw [HK.out]; simp)]
          exact wtG_push _ _ _ _ _ _
end Go.Proofs.YtpogngdddendiaaDoor

/- append of one element onto the tail s[1:] of a row of one's own: in place, or in a new row. No condition. -/
set_option linter.unusedVariables false
set_option linter.unusedSimpArgs false
namespace Go.Proofs.YtpogngdddendiaaDoor
open Go.RowKit

theorem own_block {w : World} {base n c g : Nat} {e : TypeId} {sz : Nat} {xs : List Value} (h : w.ownsRow base e sz (.slice (some ⟨g, 0, none⟩) n c) n xs) : ∃ cur, w.heap[g]? = some (.cells cur e (0, 0)) ∧ cur.size = c * sz ∧ base ≤ g ∧ n ≤ c ∧ c ≤ maxLen := by
  rcases h.2 with ⟨h', _⟩ | ⟨g', cap', cur, h', hb, hg, hnc, hcm, hcs, htake⟩
  · simp at h'
  · simp only [Value.slice.injEq, Option.some.injEq, Addr.mk.injEq, and_true, true_and] at h'
    obtain ⟨rfl, rfl⟩ := h'
    exact ⟨cur, hg, hcs, hb, hnc, hcm⟩

theorem wpList_tail1 {P : Program} {ops : Array Oper} {Q : Exit → Act → World → Prop} {a : Act} {w : World} {rest : List Oper} {o : Oper} (hgd : o.guard = none) (s x : Operand) (t : TypeId) (ho : o.op = .call { callee := .builtin .append, args := #[s, x], argTypes := #[t, t] })
    {e : TypeId} {i : TypeInfo} {z : Value} {bytes : Nat} (ht : P.underlying t = some (.slice e)) (hi : P.info? e = some i) (hz : i.zero = some z) (hsize : i.size = 1) (hby : i.bytes = bytes) (hzs : z.cells.size = 1)
    {base n c g q m' c'' : Nat} {us : List Value} {u : Value} (hown : w.ownsRow base e 1 (.slice (some ⟨g, 0, none⟩) n c) n us) (hn : 0 < n) (hq : q = 1 ∨ c = 1)
    (hs : a.eval s = .slice (some ⟨g, q, none⟩) m' c'') (hm : m' = n - 1) (hc : c'' = c - 1) (hx : a.eval x = .slice (some ⟨w.heap.size, 0, none⟩) 1 1) (h1 : u.oneCell' = true)
    (hbytes : n * bytes ≤ 140737488355328) (hbase : base ≤ w.heap.size)
    (h : ∀ A' c' w', RdL w' 1 one1 A' (us.tail ++ [u]) → (A' = none → c' = 0) → Below base w w' → Others [e] w w' → n ≤ c' → wpList P ops Q rest (a.put o.dst (.slice A' n c')) w') :
    wpList P ops Q (o :: rest) a (w.alloc (.cells #[u] e)) := by
  obtain ⟨cur, hg, hcs, hgb, hnc, hcm⟩ := own_block hown
  have hgl : g < w.heap.size := (Array.getElem?_eq_some_iff.1 hg).1
  obtain ⟨W, hW⟩ : ∃ W, W = w.alloc (.cells #[u] e) := ⟨_, rfl⟩
  have hba : Below w.heap.size w W := by rw [hW]; exact (Below.refl _ _).alloc (Nat.le_refl _) _
  have hoa : w.heap.size < W.heap.size := by rw [hW]; simp
  have hnew : W.cell? ⟨w.heap.size, 0, none⟩ = some u := by rw [hW, cell_of_row _ _ 0 #[u] e (0, 0) (heap_alloc_new w _)]; rfl
  rw [← hW]
  have hown' := own_below hown hba
  have hg' : W.heap[g]? = some (.cells cur e (0, 0)) := (hba.block g hgl).trans hg
  have hul : us.length = n := by have := hown.1; omega
  have htl : us.tail.length = m' := by rw [List.length_tail, hul, hm]
  have hmn : m' + 1 = n := by omega
  refine wpList_append_arg W hgd s x t ho e i z 1 bytes ht hi hz hsize hby hzs (by decide) g q m' c'' us.tail hs (by rw [htl]; omega) ?_ ⟨w.heap.size, 0, none⟩ 1 1 [u] hx rfl ?_ (by simpa using h1) ?_ (by omega) (by rw [hmn]; exact hbytes) ?_ ?_
  · intro j v hj
    have hjl : j < us.tail.length := (List.getElem?_eq_some_iff.1 hj).1
    rcases hq with rfl | hc1
    · rw [hown'.cellAt (1 + j) (by omega), ← hj, List.getElem?_tail, Nat.add_comm]
    · omega
  · intro j v hj
    cases j with
    | zero =>
      simp only [List.getElem?_cons_zero, Option.some.injEq] at hj
      subst hj
      exact hnew
    | succ j => simp at hj
  · intro hr j hj
    have hj0 : j = 0 := by simpa using hj
    subst hj0
    rcases hq with rfl | hc1
    · have hlt : 1 + m' * 1 + 0 < cur.size := by omega
      refine ⟨?_, ?_⟩
      · rw [cell_of_row W g _ cur e (0, 0) hg', Array.getElem?_eq_getElem hlt]
        rfl
      · simp [World.frozen?, hg']
    · omega
  · intro hr
    rcases hq with rfl | hc1
    · have hlt : 1 + m' * 1 < cur.size := by omega
      have hin := World.cell?_setCells_in g [u] (1 + m' * 1) W (fun j hj => by
        have hj0 : j = 0 := by simpa using hj
        subst hj0
        rw [cell_of_row W g _ cur e (0, 0) hg', Array.getElem?_eq_getElem (by omega)]
        rfl)
      have hbw : Below base w (W.setCells g (1 + m' * 1) [u]) := (hba.mono hbase).trans ((But.set W (1 + m' * 1) u).below hgb (Nat.le_trans hbase hba.size))
      have hot : Others [e] w (W.setCells g (1 + m' * 1) [u]) := (Others.of_below hba).trans (Others.setCell (p := ⟨g, 1 + m' * 1, none⟩) hg' (by simp) u)
      have key := h (some ⟨g, 1, none⟩) c'' (W.setCells g (1 + m' * 1) [u]) (fun k hk => ⟨g, 1, rfl, Nat.lt_of_lt_of_le hgl hbw.size, fun j v hj => ?_⟩) (fun h => by cases h) hbw hot (by omega)
      · rw [hmn]
        exact key
      · have hj0 : j = 0 := by
          have := (List.getElem?_eq_some_iff.1 hj).1
          simp [one1] at this
          exact this
        subst hj0
        simp only [one1, List.getElem?_cons_zero, Option.some.injEq] at hj
        subst hj
        simp only [List.length_append, List.length_cons, List.length_nil, htl] at hk
        by_cases hkm : k < m'
        · rw [World.cell?_setCells_out g [u] _ W _ (fun _ _ => .inl (by simp; omega))]
          rw [List.getElem_append_left (by omega), show 1 + k * 1 + 0 = 1 + k by omega, hown'.cellAt (1 + k) (by omega), List.getElem_tail, Nat.add_comm]
          exact List.getElem?_eq_getElem _
        · obtain rfl : k = m' := by omega
          have := hin 0 (by simp)
          simp only [Nat.add_zero] at this ⊢
          rw [this, List.getElem_append_right (by omega)]
          simp [htl]
    · omega
  · intro hr v' w' hown2 hg2
    have hb2 : Below W.heap.size W w' := (Below.refl _ _).grown hg2 (Nat.le_refl _) (fun k hk => by cases hk)
    have hl2 : (us.tail ++ [u]).length = n := by simp [htl]; omega
    rw [hmn] at hown2
    have h4 : w'.ownsRow W.heap.size e 1 v' n ((us.tail ++ [u]).flatMap one1) := by rw [one1_flat]; exact hown2
    obtain ⟨A', c', rfl, h5, h6, h7, h8⟩ := RdL.of_own one1_len h4 hl2.symm
    have hbw : Below w.heap.size w w' := hba.trans (hb2.mono (Nat.le_of_lt hoa))
    exact h A' c' w' h7 h8 (hbw.mono hbase) (Others.of_below hbw) h5
end Go.Proofs.YtpogngdddendiaaDoor
