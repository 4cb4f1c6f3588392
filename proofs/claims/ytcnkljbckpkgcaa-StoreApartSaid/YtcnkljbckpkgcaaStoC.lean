/- The walk over Clone: a store of its own, in new memory. Bounds on the lengths. -/
import Derived.Test.YtcnkljbckpkgcaaStoK
import Derived.Test.YtcnkljbckpkgcaaRelC
set_option linter.unusedVariables false
set_option linter.unusedSimpArgs false
namespace Go.Proofs.Ytcnkljbckpkgcaa
open Go.RowKit Go.Maps Go.Sort

theorem MapR.lookL {α : Type} {R : World → Value → α → Prop} {w : World} {b N : Nat} {B : List UInt8 → Option α} (h : MapR R w b N B) {t e : TypeId} (ht : Try.prog.underlying t = some (.map 9 e)) {z : Value} (hz : ∀ W, (zeroValue e).run Try.prog W = .ok z W) {s : List UInt8} (hs : s.length ≤ maxLen) :
    ∃ v, (∀ x : Later w, (Instr.lookup t (.map (some b)) (.string ⟨s.toArray⟩) false).run Try.prog x.val = .ok v x.val) ∧ (B s = none → v = z) ∧ ∀ y, B s = some y → R w v y := by
  obtain ⟨F, h1, h2⟩ := h
  cases hB : B s with
  | none =>
    refine ⟨z, fun x => ?_, fun _ => rfl, fun x h => by cases h⟩
    have hr := (h1.below x.below).look1 mstr ht (hz x.val) hs
    rw [(h2 s).1 hB] at hr
    exact hr
  | some y =>
    obtain ⟨v, hv, hR⟩ := (h2 s).2 y hB
    refine ⟨v, fun x => ?_, fun h => (by cases h), fun y' hy => by cases hy; exact hR⟩
    have hr := (h1.below x.below).look1 mstr ht (hz x.val) hs
    rw [hv] at hr
    exact hr
/-- A clone: of bounded size. -/
def CloneRet (k : Nat) (w : World) (e : Ending) (w' : World) : Prop :=
  ∃ st vb fb N x F, e = .returned (.pointer (some ⟨st, 0, none⟩)) ∧ StI X0 w' st vb fb N x F ∧ SmK x F k ∧ N ≤ 1000 ∧ w.heap.size ≤ st ∧ w.heap.size ≤ vb ∧ w.heap.size ≤ fb ∧ Below w.heap.size w w'
set_option maxRecDepth 100000 in
set_option maxHeartbeats 4000000 in
theorem clone_any (st vb fb N k : Nat) (x : Sto) (F : List (Txt × List Nd)) (w : World) (h : StI X0 w st vb fb N x F) (hs : SmK x F k) (hN : N ≤ 100000) (hk : k ≤ 200) :
    Calls Try.prog 11 #[.pointer (some ⟨st, 0, none⟩)] w (CloneRet k w) := by
  have HI := Lib.hid h
  have HS := Lib.hid hs
  have HV := Lib.hid (vars_any st vb fb N x F w h hs.s (by omega) (by have := hs.v; omega) hs.k)
  clear h hs
  go_enter Try.func11, Try.ntmps11
  go_wp2_with fail
  refine HV.out.mono ?_
  rintro e w1 ⟨v1, rfl, h1, hb1⟩
  have hvl : ∀ p ∈ x.vars, p.1.length ≤ maxLen ∧ p.2.length ≤ 1000000 := fun p hp => ⟨HS.out.k p hp, HS.out.s.vars p.1 p.2 (look_of_mem HI.out.sv hp)⟩
  have HAL := Lib.hid (newS_all x.vars hvl)
  have hvr : ValR w1 v1 x.vars := h1.rd
  have HNW := Lib.hid (new_any (X := X0) v1 x.vars w1 hvr (by have := HS.out.v; omega) hvl (fun b h => h.elim))
  obtain ⟨A1, c1, vs1, rfl, -⟩ := h1
  have HB1 := Lib.hid hb1
  clear hvl hvr hb1 HV
  go_wp2_with fail
  refine HNW.out.mono ?_
  rintro e w2 ⟨st', vb', fb', rfl, hI2, hst, hvb, hfb, hb2⟩
  have HB2 := Lib.hid (HB1.out.trans (hb2.mono HB1.out.size))
  have HGE := Lib.hid (show ∀ k ∈ [st', vb', fb'], w.heap.size ≤ k from fun k hk => by
    have := HB1.out.size
    simp only [List.mem_cons, List.not_mem_nil, or_false] at hk
    omega)
  have HI2 := Lib.hid hI2
  have HAR := Lib.hid (args_any st vb fb N x F w2 (HI.out.below HB2.out) HS.out.s.args)
  clear hI2 hst hvb hfb hb2 HNW HB1
  go_wp2_with fail
  refine HAR.out.mono ?_
  rintro e w3 ⟨v3, rfl, h3, hb3⟩
  have HB3 := Lib.hid (HB2.out.trans (hb3.mono HB2.out.size))
  have HI3 := Lib.hid (HI2.out.below hb3)
  have HSA := Lib.hid (HI3.out.setArgs (h3.ot (X := X0) (fun b h => h.elim)))
  obtain ⟨va, hq, -⟩ := HI3.out.blk
  have d1 := hq.cell 1
  have f1 := hq.frozen 1
  simp only [List.getElem?_toArray, List.getElem?_cons_succ, List.getElem?_cons_zero] at d1
  obtain ⟨A3, c3, rfl, -⟩ := h3
  obtain ⟨w4, hw4⟩ : ∃ w4, w4 = w3.setCell ⟨st', 1, none⟩ (.slice A3 x.args.length c3) := ⟨_, rfl⟩
  have HB4 := Lib.hid (show Below w.heap.size w w4 from by rw [hw4]; exact HB3.out.trans (HSA.out.2.below HGE.out HB3.out.size))
  have HI4 := Lib.hid (show StI X0 w4 st' vb' fb' x.vars.length ⟨(newS x.vars).vars, x.args⟩ [] from by rw [hw4]; exact HSA.out.1)
  have HW4 := Lib.hid hw4
  have HFU := Lib.hid (funs_any st vb fb N x F w4 (HI.out.below HB4.out) (by omega))
  clear hb3 hq hw4 HAR HI2 HB2 HSA HI3
  go_upto_region 3 with (fail)
  rw [← HW4.out]
  clear d1 f1 HB3
  go_wp2_with fail
  refine HFU.out.mono ?_
  rintro e w5 ⟨v5, rfl, h5, hb5⟩
  have HB5 := Lib.hid (HB4.out.trans (hb5.mono HB4.out.size))
  have HI5 := Lib.hid (HI4.out.below hb5)
  obtain ⟨A5, c5, rfl, hr5, -⟩ := h5.rd
  have HR5 := Lib.hid hr5
  rw [List.length_map]
  obtain ⟨m, hm⟩ : ∃ m, m = F.length := ⟨_, rfl⟩
  rw [← hm]
  have hm300 : m ≤ 300 := by have := HS.out.g; omega
  have HM := Lib.hid hm
  clear hb5 h5 hr5 hm HFU HI4 HB4 HW4
  go_wp2_with fail
  go_loopw [24] (fun i wr => ∃ j : Nat, j ≤ m ∧ i = .int .i64 j ∧ (∃ F', Hid (StI X0 wr st' vb' fb' (x.vars.length + j) ⟨(newS x.vars).vars, x.args⟩ F') ∧ Hid (SmF F' ∧ F'.length ≤ j ∧ ∀ p ∈ F', p.1.length ≤ maxLen)) ∧ Hid (Below w.heap.size w wr) ∧ Hid (RdL wr 1 strc A5 (F.map Prod.fst))) (fun i _ => m - (intOf i).toNat)
  case atStart => exact ⟨0, Nat.zero_le _, rfl, ⟨[], HI5, Lib.hid ⟨fun n l h => (by cases h), Nat.le_refl _, fun p h => (by cases h)⟩⟩, HB5, HR5⟩
  case round =>
    obtain ⟨j, hj, rfl, ⟨F', HJ, HF⟩, HBJ, HRJ⟩ := hrel
    clear HI5 HB5 HR5
    by_cases hlt : j < m
    · have hjF : j < F.length := by rw [← HM.out]; exact hlt
      obtain ⟨bn, on, rfl, _, hcn⟩ := HRJ.out j (by rw [List.length_map]; exact hjF)
      have cn := hcn 0 _ rfl
      simp only [List.getElem_map, Nat.mul_one, Nat.add_zero] at cn
      obtain ⟨p, hp⟩ : ∃ p, p = F[j] := ⟨_, rfl⟩
      rw [← hp] at cn
      have hlook : lookA F p.1 = some p.2 := look_of_mem HI.out.sf (by rw [hp]; exact List.getElem_mem _)
      have hpl := HS.out.f _ _ hlook
      have hnl := HS.out.kf p (by rw [hp]; exact List.getElem_mem _)
      have hIW := HI.out.below HBJ.out
      obtain ⟨u, hlk, _, hu2⟩ := hIW.funs.lookL Try.underlying47 zslN (s := p.1) hnl
      have hu := (hu2 _ hlook).rd
      have HSF := Lib.hid (fun (W : World) (hW : Below wr.heap.size wr W) => setfun_any st' vb' fb' (x.vars.length + j) ⟨(newS x.vars).vars, x.args⟩ F' p.1 u p.2 W (HJ.out.below hW) (by have := HS.out.v; omega) hnl (hu.below hW) hpl)
      have HFN := Lib.hid (show SmF (putA p.1 p.2 F') ∧ (putA p.1 p.2 F').length ≤ j + 1 ∧ ∀ q ∈ putA p.1 p.2 F', q.1.length ≤ maxLen from
        ⟨fun n l hl => by
          rw [look_put] at hl
          split at hl
          · injection hl with hl
            rw [← hl]
            exact hpl
          · exact HF.out.1 n l hl, Nat.le_trans (put_len _ _ _) (Nat.succ_le_succ HF.out.2.1), fun q hq => by
          rcases put_mem hq with he | hq
          · rw [he]; exact hnl
          · exact HF.out.2.2 q hq⟩)
      obtain ⟨va, hq, -⟩ := hIW.blk
      have e2 := hq.cell 2
      simp only [List.getElem?_toArray, List.getElem?_cons_succ, List.getElem?_cons_zero] at e2
      have l0 := Later.cell e2
      obtain ⟨Au, cu, rfl, -⟩ := hu
      obtain ⟨nm, P⟩ := p
      simp only at hlk HSF HFN cn
      generalize P.length = np at *
      clear hcn hp hjF hlook hpl hnl hIW hu2 hq HF
      go_upto_region 6 with (fail)
      clear cn e2
      refine wp_region_mid 11 _ rfl rfl (by kernel_rfl) (by kernel_rfl) (by kernel_rfl) ?_
      apply EqGo.run
      focus
        kernel_rfl
      focus
        intro x K hK
        go_wp2_with fail
        first | exact hK x (Below.refl _ _) | exact Below.refl _ _
      simp only [Act.put, List.setIfInBounds_toArray, List.set_cons_succ, List.set_cons_zero]
      apply EqGo.run
      focus
        kernel_rfl
      focus
        intro x K hK
        go_wp2_with fail
        first | exact hK x (Below.refl _ _) | exact Below.refl _ _
      simp only [Act.put, List.setIfInBounds_toArray, List.set_cons_succ, List.set_cons_zero]
      apply EqGo.run
      focus
        kernel_rfl
      focus
        intro x K hK
        go_wp2_with fail
        first | exact hK x (Below.refl _ _) | exact Below.refl _ _
      simp only [Act.put, List.setIfInBounds_toArray, List.set_cons_succ, List.set_cons_zero]
      apply EqGo.run
      focus
        kernel_rfl
      focus
        intro x K hK
        go_wp2_with fail
        first | exact hK x (Below.refl _ _) | exact Below.refl _ _
      simp only [Act.put, List.setIfInBounds_toArray, List.set_cons_succ, List.set_cons_zero]
      apply EqGo.run
      focus
        kernel_rfl
      focus
        intro x K hK
        go_wp2_with fail
        first | exact hK x (Below.refl _ _) | exact Below.refl _ _
      simp only [Act.put, List.setIfInBounds_toArray, List.set_cons_succ, List.set_cons_zero]
      apply EqGo.run
      focus
        kernel_rfl
      focus
        intro x K hK
        go_wp2_with fail
        first | exact hK x (Below.refl _ _) | exact Below.refl _ _
      simp only [Act.put, List.setIfInBounds_toArray, List.set_cons_succ, List.set_cons_zero]
      apply EqGo.run
      focus
        kernel_rfl
      focus
        intro x K hK
        go_wp2_with fail
        first | exact hK x (Below.refl _ _) | exact Below.refl _ _
      simp only [Act.put, List.setIfInBounds_toArray, List.set_cons_succ, List.set_cons_zero]
      apply EqGo.run
      focus
        kernel_rfl
      focus
        intro x K hK
        go_wp2_with fail
        first | exact hK x (Below.refl _ _) | exact Below.refl _ _
      simp only [Act.put, List.setIfInBounds_toArray, List.set_cons_succ, List.set_cons_zero]
      apply EqGo.run
      focus
        kernel_rfl
      focus
        intro x K hK
        go_wp2_with fail
        first | exact hK x (Below.refl _ _) | exact Below.refl _ _
      simp only [Act.put, List.setIfInBounds_toArray, List.set_cons_succ, List.set_cons_zero]
      apply EqGo.run
      focus
        kernel_rfl
      focus
        intro x K hK
        go_wp2_with fail
        first | exact hK x (Below.refl _ _) | exact Below.refl _ _
      simp only [Act.put, List.setIfInBounds_toArray, List.set_cons_succ, List.set_cons_zero]
      apply EqGo.run
      focus
        kernel_rfl
      focus
        intro x K hK
        go_wp2_with fail
        first | exact hK x (Below.refl _ _) | exact Below.refl _ _
      simp only [Act.put, List.setIfInBounds_toArray, List.set_cons_succ, List.set_cons_zero]
      intro z K hK
      have HSY := Lib.hid (HSF.out z.val z.below)
      have HJY := Lib.hid (HJ.out.below z.below)
      have HBY := Lib.hid (HBJ.out.trans (z.below.mono HBJ.out.size))
      have HRY := Lib.hid (HRJ.out.below z.below)
      clear HSF HJ HBJ HRJ l0 hlk
      go_wp2_with fail
      refine HSY.out.mono ?_
      rintro e w6 ⟨rfl, hI6, hb6⟩
      have HI6 := Lib.hid hI6
      have HB6 := Lib.hid (HBY.out.trans (hb6.below HGE.out HBY.out.size))
      have HR6 := Lib.hid (HRY.out.butS hb6 (TxR.apart HRY.out HJY.out.s))
      clear hI6 hb6 HSY HJY HBY HRY
      refine hK _ _ ?_
      clear hK K
      intro z2
      replace HI6 := Lib.hid (HI6.out.below z2.below)
      replace HB6 := Lib.hid (HB6.out.trans (z2.below.mono HB6.out.size))
      replace HR6 := Lib.hid (HR6.out.below z2.below)
      generalize z2.val = w7 at *
      clear z2
      go_wp2_with fail
      go_roundw
      case rel => exact ⟨j + 1, by omega, by go_num, ⟨_, HI6, HFN⟩, HB6, HR6⟩
      case measure => simp [intOf]; omega
    · obtain rfl : j = m := by omega
      have hfin : CloneRet k w (.returned (.pointer (some ⟨st', 0, none⟩))) wr := ⟨st', vb', fb', _, _, F', rfl, HJ.out, ⟨⟨HS.out.s.args, HAL.out.2.1.vars⟩, HF.out.1, Nat.le_trans HAL.out.2.2 HS.out.v, Nat.le_trans HF.out.2.1 (by have := HS.out.g; have := HM.out; omega), HAL.out.1, HF.out.2.2⟩, by have := HS.out.v; omega, HGE.out _ (by simp), HGE.out _ (by simp), HGE.out _ (by simp), HBJ.out⟩
      go_wp2_with fail
      go_ret
      exact hfin
end Go.Proofs.Ytcnkljbckpkgcaa
