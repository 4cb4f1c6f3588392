/- The walks over ops and ticked, kind by kind. Bounds on the lengths. -/
import Derived.Test.YtpogngdddendiaaDoorGX
set_option linter.unusedVariables false
set_option linter.unusedSimpArgs false
namespace Go.Proofs.YtpogngdddendiaaDoor
open Go.RowKit
theorem gix (kd : Int) (h : kd = 5 ∨ kd = 6 ∨ kd = 7 ∨ kd = 8 ∨ kd = 9 ∨ kd = 10 ∨ kd = 11) (W : World) : (Instr.index 190 (.agg #[.int .i64 0, .int .i64 0, .int .i64 0, .int .i64 0, .int .i64 0, .int .i64 5, .int .i64 6, .int .i64 7, .int .i64 8, .int .i64 9, .int .i64 10, .int .i64 11]) (.int .i64 kd)).run Tryd.prog W = .ok (.int .i64 kd) W := by
  rcases h with rfl | rfl | rfl | rfl | rfl | rfl | rfl
  all_goals kernel_rfl
set_option maxRecDepth 100000 in
set_option maxHeartbeats 2000000 in
theorem gops_any (kd : Int) (h5 : 5 ≤ kd) (h11 : kd ≤ 11) (w : World) : Calls Tryd.prog 124 #[.int .i64 kd] w (Ret w (.int .i64 kd)) := by
  have hix := fun W => gix kd (by omega) W
  go_enter Tryd.func124, Tryd.ntmps124
  go_wp2_with fail
  go_ret
  exact ⟨rfl, Below.refl _ _⟩
/-- What is handed to ticked. -/
structure TkIn (base g : Nat) (X : List Ins) (now high H fl : Nat) (A : Option Addr) (ls : List (List Nd)) (w : World) : Prop where
  wr : WrI w base g X now high
  kd : KdS base w A ls
  bw : base ≤ w.heap.size
  x : X.length + 8 * fl + 7 ≤ 30000000
  nb : now + fl + 1 ≤ 30000000
  hi : high ≤ 30000000
  h9 : now + H ≤ 30000000
def TkRet (base g : Nat) (X : List Ins) (now high H fl : Nat) (w : World) (e : Ending) (w' : World) : Prop := Wrote base g X now high now H (8 * fl + 4) w e w'
theorem TkRet.of {base g : Nat} {X : List Ins} {now high H fl : Nat} {w w1 : World} {e : Ending} {w' : World} (h : TkRet base g X now high H fl w1 e w') (hb : Below w.heap.size w w1) (hbw : base ≤ w.heap.size) : TkRet base g X now high H fl w e w' :=
  let ⟨Y, hi, h1, h2, h3, h4, h5, h6, h7⟩ := h
  ⟨Y, hi, h1, h2, h3, h4, h5, h6, (FrW.of hb hbw).trans h7⟩
theorem TkIn.st {base g : Nat} {X : List Ins} {now high H fl : Nat} {A : Option Addr} {ls : List (List Nd)} {w w1 : World} (h : TkIn base g X now high H fl A ls w) (hb : Below w.heap.size w w1) : St base g X now high H w A ls w1 now X.length 0 :=
  (St.start (H := H) h.wr h.kd h.bw ⟨h.hi, h.h9⟩).below hb
set_option maxRecDepth 100000 in
set_option maxHeartbeats 4000000 in
theorem tk22 (t0 : Tr) (HT0 : WordOk t0) (n kk z : Int) (s : List UInt8) (hs : s.length ≤ 2000) (base g : Nat) (X : List Ins) (now high H : Nat) (A : Option Addr) (c m : Nat) (w : World) (h : TkIn base g X now high H (flat t0).length A [flat t0] w) (hm : m = 1) (hH0 : heightT t0 ≤ H) :
    Calls Tryd.prog 68 #[.pointer (some ⟨g, 0, none⟩), .agg #[.int .i64 22, .int .i64 n, .int .i64 kk, .int .i64 z, .string ⟨s.toArray⟩], .slice A m c] w (TkRet base g X now high H (flat t0).length w) := by
  subst hm
  obtain ⟨kb, ko, _, rfl, -⟩ := h.kd.at_ (k := 0) (by simp)
  have hx := h.x
  have hnow := h.nb
  have h9 := h.h9
  have p0 := flat_pos t0
  have HSL := Lib.hid hs
  have HBX := Lib.hid (Blk.new w 98 #[.int .i64 22, .int .i64 n, .int .i64 kk, .int .i64 z, .string ⟨s.toArray⟩])
  have HS := Lib.hid (h.st ((Below.refl _ w).alloc (Nat.le_refl _) (.cells #[.int .i64 22, .int .i64 n, .int .i64 kk, .int .i64 z, .string ⟨s.toArray⟩] 98)))
  generalize hw1 : w.alloc (.cells #[.int .i64 22, .int .i64 n, .int .i64 kk, .int .i64 z, .string ⟨s.toArray⟩] 98) = w1 at *
  have HW1 := Lib.hid hw1
  obtain ⟨gx, hgx⟩ : ∃ gx, gx = w.heap.size := ⟨_, rfl⟩
  rw [← hgx] at HBX
  have HGX := Lib.hid hgx
  have HF := Lib.hid (FrW.refl base w1)
  have q0 := HBX.out.cell 0
  simp only [List.getElem?_toArray, List.getElem?_cons_zero, List.getElem?_cons_succ] at q0
  clear h hs hw1 hgx
  go_enter Tryd.func68, Tryd.ntmps68
  go_upto_region 1 with (fail)
  rw [HW1.out, ← HGX.out]
  clear HW1 HGX
  obtain ⟨Av, nv, cv, hkc, hcc⟩ := (HS.out.word_ (k := 0) HT0 (by simp) rfl (by omega) (by omega) (by omega))
  have HCC := Lib.hid hcc
  clear hcc
  first | (simp only [Nat.add_zero] at hkc) | skip
  go_wp2_with fail
  refine HCC.out.mono ?_
  rintro e W' ⟨rfl, hs', hf'⟩
  replace HS := Lib.hid hs'
  replace HF := Lib.hid (HF.out.trans hf')
  clear hs' hf' HCC hkc
  clear q0
  have q4 := (HBX.out.others HF.out.others (by decide)).cell 4
  simp only [List.getElem?_toArray, List.getElem?_cons_zero, List.getElem?_cons_succ] at q4
  have l4 := Later.cell q4
  have HOPC := Lib.hid (fun (W2 : World) hW => St.op_ (HS.out.below (W' := W2) hW) 16 0 0 s (fun m _ => by simp [okI, placeA, placeB, countA, HSL.out]) (by omega))
  go_upto_region 9 with (fail)
  clear q4
  refine wp_region_mid 5 _ rfl rfl (by kernel_rfl) (by kernel_rfl) (by kernel_rfl) ?_
  apply EqGo.run
  focus
    kernel_rfl
  focus
    intro x K hK
    go_wp2_with fail
    first | exact hK x (Below.refl _ _) | exact Below.refl _ _
  simp only [Act.put, List.setIfInBounds_toArray, List.set_cons_succ, List.set_cons_zero]
  apply EqGo.run
  focus
    kernel_rfl
  focus
    intro x K hK
    go_wp2_with fail
    first | exact hK x (Below.refl _ _) | exact Below.refl _ _
  simp only [Act.put, List.setIfInBounds_toArray, List.set_cons_succ, List.set_cons_zero]
  apply EqGo.run
  focus
    kernel_rfl
  focus
    intro x K hK
    go_wp2_with fail
    first | exact hK x (Below.refl _ _) | exact Below.refl _ _
  simp only [Act.put, List.setIfInBounds_toArray, List.set_cons_succ, List.set_cons_zero]
  apply EqGo.run
  focus
    kernel_rfl
  focus
    intro x K hK
    go_wp2_with fail
    first | exact hK x (Below.refl _ _) | exact Below.refl _ _
  simp only [Act.put, List.setIfInBounds_toArray, List.set_cons_succ, List.set_cons_zero]
  apply EqGo.run
  focus
    kernel_rfl
  focus
    intro x K hK
    go_wp2_with fail
    first | exact hK x (Below.refl _ _) | exact Below.refl _ _
  simp only [Act.put, List.setIfInBounds_toArray, List.set_cons_succ, List.set_cons_zero]
  intro z K hK
  have HCC := Lib.hid (HOPC.out z.val z.below)
  have HFz := Lib.hid (FrW.of z.below HS.out.bw)
  clear HOPC l4
  go_wp2_with fail
  refine HCC.out.mono ?_
  rintro e W' ⟨P1, rfl, hX1, hL1, hP1, hs', hf'⟩
  replace HS := Lib.hid hs'
  replace HF := Lib.hid ((HF.out.trans HFz.out).trans hf')
  clear hs' hf' HCC HFz
  refine hK _ _ ?_
  clear hK K
  intro z2
  replace HF := Lib.hid (HF.out.trans (FrW.of z2.below HS.out.bw))
  replace HS := Lib.hid (HS.out.below z2.below)
  generalize z2.val = W' at *
  clear z2
  have HCC := Lib.hid (HS.out.push_ now (-1) (by omega) (by omega) (by omega))
  go_wp2_with fail
  refine HCC.out.mono ?_
  rintro e W' ⟨rfl, hs', hf'⟩
  replace HS := Lib.hid hs'
  replace HF := Lib.hid (HF.out.trans hf')
  clear hs' hf' HCC
  have HFIN := Lib.hid (HS.out.done (sz := 8 * (flat t0).length + 4) (by omega))
  go_wp2_with fail
  go_returns
  exact HFIN.out
end Go.Proofs.YtpogngdddendiaaDoor

/- The walk over word: a word is written. Bounds on the lengths. -/
set_option linter.unusedVariables false
set_option linter.unusedSimpArgs false
namespace Go.Proofs.YtpogngdddendiaaDoor
open Go.RowKit

def newG (t : TypeId) (cs : Array Value) (base : Nat) : TT := ⟨fun v => ∃ g, v = .pointer (some ⟨g, 0, none⟩), ⟨_, 0, rfl⟩, fun v x => ∀ g, v = .pointer (some ⟨g, 0, none⟩) → Blk x g t cs ∧ base ≤ g, fun _ _ _ h hb g hg => ⟨(h g hg).1.below hb, (h g hg).2⟩⟩
def kidsG (B N : Nat) (ls : List (List Nd)) : TT := ⟨fun v => ∃ A c, v = .slice A N c, ⟨_, none, 0, rfl⟩, fun v x => ∃ A c vs, v = .slice A N c ∧ N ≤ c ∧ x.ownsRow B 22 1 (.slice A N c) N vs ∧ OwnAll x B vs ls, fun _ _ _ ⟨A, c, vs, h1, h2, h3, h4⟩ hb => ⟨A, c, vs, h1, h2, own_below h3 hb, h4.below hb⟩⟩
/-- What a kid is. -/
def KidsOk (kd : Int) (ks : List Tr) : Prop := ∀ k (h : k < ks.length), (takesB kd ks.length k = true → WordOk ks[k]) ∧ (takesB kd ks.length k = false → DoOk ks[k])
theorem fields_s {kd n k z : Int} {s : List UInt8} (h : fieldsB ⟨kd, n, k, z, s⟩ = true) : s.length ≤ 2000 := by
  have hn : ∀ s : List UInt8, nameB s = true → s.length ≤ 2000 := fun s h => by
    cases s with
    | nil => simp
    | cons c t =>
      unfold nameB at h
      simp only [Bool.and_eq_true, decide_eq_true_eq] at h
      simp only [List.length_cons]
      omega
  unfold fieldsB at h
  simp only at h
  split at h
  · simp only [Bool.and_eq_true, decide_eq_true_eq] at h
    exact h.2
  · split at h
    · simp only [Bool.and_eq_true, List.isEmpty_iff] at h
      rw [h.2]; simp
    · split at h
      · simp only [Bool.and_eq_true, List.isEmpty_iff] at h
        rw [h.2]; simp
      · split at h
        · cases h
        · split at h
          · simp only [Bool.or_eq_true, beq_iff_eq] at h
            rcases h with h | h
            · exact hn s h
            · rw [h]; simp
          · split at h
            · exact hn s h
            · simp only [List.isEmpty_iff] at h
              rw [h]; simp
/-- Behind the head: the node's own copy, the kids. -/
structure HeadI (base g : Nat) (X : List Ins) (now high H : Nat) (w W : World) (kd n : Int) (s : List UInt8) (ks : List Tr) (gx : Nat) (A : Option Addr) (c : Nat) : Prop where
  st : St base g X now high H w A (ks.map flat) W now X.length 0
  x : Blk W gx 98 #[.int .i64 kd, .int .i64 n, .int .i64 ks.length, .int .i64 ((1 + (flatAll ks).length : Nat) : Int), .string ⟨s.toArray⟩]
  c : ks.length ≤ c
theorem own_ne {w w' : World} {B : Nat} {e : TypeId} {sz n : Nat} {v : Value} {xs : List Value} (h : w.ownsRow B e sz v n xs) {g : Nat} (hb : But g w w') (hn : ∀ b o s m c, v = .slice (some ⟨b, o, s⟩) m c → b ≠ g) : w'.ownsRow B e sz v n xs := by
  refine ⟨h.1, ?_⟩
  rcases h.2 with hn' | ⟨g', cap, cur, rfl, hb', hg', rest⟩
  · exact .inl hn'
  · exact .inr ⟨g', cap, cur, rfl, hb', (hb.block g' (Array.getElem?_eq_some_iff.1 hg').1 (hn _ _ _ _ _ rfl)).trans hg', rest⟩
/-- The node's own copy is none of the kids: it is still empty. -/
theorem kids_ne {y W : World} {B gx : Nat} {vs : List Value} {ks : List Tr} (h : OwnAll y B vs (ks.map flat)) (hg : Blk y gx 98 #[.int .i64 0, .int .i64 0, .int .i64 0, .int .i64 0, .string ⟨#[]⟩]) (hb : But gx y W) (hkz : ∀ t ∈ ks, t.kind ≠ 0) : OwnAll W B vs (ks.map flat) := by
  refine ⟨h.1, fun i hi v hv => ?_⟩
  have ho := h.2 i hi v hv
  refine own_ne ho hb ?_
  rintro b o sp m c rfl rfl
  obtain ⟨t, ht, hte⟩ := List.mem_map.1 (List.getElem_mem hi)
  rw [← hte] at ho
  obtain ⟨g', cap, cur, he, _⟩ : ∃ g cap cur, (.slice (some ⟨b, o, sp⟩) m c : Value) = .slice (some ⟨g, 0, none⟩) (flat t).length cap ∧ y.heap[g]? = some (.cells cur 98 (0, 0)) := by
    rcases ho.2 with ⟨he, _⟩ | ⟨g', cap, cur, he, _, hg', _⟩
    · cases he
    · exact ⟨g', cap, cur, he, hg'⟩
  injection he with he1 he2 he3
  injection he1 with he1
  injection he1 with he1 he4 he5
  subst he1 he2 he3 he4 he5
  have hc := ho.cellAt 0 (by have := flat_pos t; omega)
  rw [hg.cell 0] at hc
  obtain ⟨r, hr⟩ := flat_head t
  rw [hr, List.flatMap_cons] at hc
  simp [ndc] at hc
  exact hkz t ht hc.symm
theorem Wrote.of {base g : Nat} {X : List Ins} {now high now' H sz : Nat} {w w1 : World} {e : Ending} {w' : World} (h : Wrote base g X now high now' H sz w1 e w') (hb : Below w.heap.size w w1) (hbw : base ≤ w.heap.size) : Wrote base g X now high now' H sz w e w' :=
  let ⟨Y, hi, h1, h2, h3, h4, h5, h6, h7⟩ := h
  ⟨Y, hi, h1, h2, h3, h4, h5, h6, (FrW.of hb hbw).trans h7⟩
theorem kid_h (kd n : Int) (s : List UInt8) (ks : List Tr) (k : Nat) (h : k < ks.length) : heightT ks[k] + addH kd ks.length k ≤ heightT (.mk kd n s ks) := by
  have h1 := heightTs_get kd ks.length 0 ks k h
  rw [Nat.zero_add] at h1
  rw [heightT_mk]
  refine Nat.le_trans h1 ?_
  unfold topH
  split
  · exact Nat.le_max_right _ _
  · split
    · rename_i h2
      simp only [Bool.and_eq_true, beq_iff_eq] at h2
      omega
    · exact Nat.le_refl _
set_option maxRecDepth 100000 in
set_option maxHeartbeats 8000000 in
theorem wd1 (kd : Int) (hkd : kd = 1) (n : Int) (s : List UInt8) (ks : List Tr) (hkz : ∀ t ∈ ks, t.kind ≠ 0) (hs : s.length ≤ 2000) (h1 : 1 ≤ heightT (.mk kd n s ks))  : WordOk (.mk kd n s ks) := by
  have HKZ := Lib.hid hkz
  have HSL := Lib.hid hs
  have HH1 := Lib.hid h1
  clear hkz hs h1
  have HKD := Lib.hid hkd
  clear hkd
  intro base g X now high v w h hv hbw hX hnow hhi
  rw [flat_size] at hX hnow ⊢
  have KC := Lib.hid (show ∀ W, SlRd W v (flat (.mk kd n s ks)) → Calls Tryd.prog 64 #[v] W (KidsRet (ks.map flat) W) from fun W h => by
    rw [← kidsL_flat kd n s ks]
    exact kids_any v _ W h (by rw [flat_size]; omega))
  have hH9 : now + heightT (.mk kd n s ks) ≤ 30000000 := by have := heightT_len (.mk kd n s ks); rw [flat_size] at this; omega
  have HV := Lib.hid hv.rd
  have HWR := Lib.hid h
  obtain ⟨A0, cp0, hve, hrd, hc0, hm0, -⟩ := hv.rd
  have h0 : 0 < (flat (.mk kd n s ks)).length := flat_pos _
  obtain ⟨b, o, rfl, hbl⟩ := hrd.addr h0
  have hx := hrd.at_ h0
  rw [show (flat (.mk kd n s ks))[0] = ⟨kd, n, ks.length, ((1 + (flatAll ks).length : Nat) : Int), s⟩ by simp [flat_mk]] at hx
  have d0 := hx.2 0 _ rfl
  have d1 := hx.2 1 _ rfl
  have d2 := hx.2 2 _ rfl
  have d3 := hx.2 3 _ rfl
  have d4 := hx.2 4 _ rfl
  simp only [Nat.zero_mul, Nat.add_zero] at d0 d1 d2 d3 d4
  subst hve
  obtain ⟨m, hml⟩ : ∃ m, m = (flat (.mk kd n s ks)).length := ⟨_, rfl⟩
  have hm1 : 0 < m := by omega
  rw [← hml] at KC HV ⊢
  have hkn := len_flatAll ks
  have HKN := Lib.hid hkn
  have HH9 := Lib.hid hH9
  have HXX := Lib.hid (And.intro hX (And.intro hnow hhi))
  have HBW := Lib.hid hbw
  obtain ⟨Hh, hHh⟩ : ∃ Hh, Hh = heightT (.mk kd n s ks) := ⟨_, rfl⟩
  rw [← hHh]
  rw [← hHh] at HH9
  have HHQ := Lib.hid hHh
  obtain ⟨Zk, hZk⟩ : ∃ Zk : Int, Zk = ks.length := ⟨_, rfl⟩
  obtain ⟨Zz, hZz⟩ : ∃ Zz : Int, Zz = ((1 + (flatAll ks).length : Nat) : Int) := ⟨_, rfl⟩
  rw [← hZk] at d2
  rw [← hZz] at d3
  have HZK := Lib.hid hZk
  obtain ⟨kl, hkl⟩ : ∃ kl, kl = ks.length := ⟨_, rfl⟩
  have HKL := Lib.hid hkl
  have HZZ := Lib.hid hZz
  clear hx hrd hc0 hm0 hkn hml h0 hv h hH9 hX hnow hhi hbw hHh hZk hZz hkl
  go_enter Tryd.func93, Tryd.ntmps93
  go_upto_region 0 with (fail)
  apply wp_region_relA 6 [eqT _, eqT _, eqT (.agg #[.int .i64 kd, .int .i64 n, .int .i64 Zk, .int .i64 Zz, .string ⟨s.toArray⟩]), eqT _, kidsG w.heap.size kl (ks.map flat), newG 98 #[.int .i64 0, .int .i64 0, .int .i64 0, .int .i64 0, .string ⟨#[]⟩] w.heap.size] (by kernel_rfl) (by kernel_rfl) (by kernel_rfl) rfl
  focus
    refine ⟨?_, ?_⟩
    focus
      unfold opGoal
      rw [if_pos (by kernel_rfl)]
      intro x hb hd K hk
      clear hd
      go_wp2_with fail
      exact hk _ _ rfl trivial (Below.refl _ _)
    rintro _ rfl
    simp only [Act.put, List.setIfInBounds_toArray, List.set_cons_succ, List.set_cons_zero]
    refine ⟨?_, ?_⟩
    focus
      unfold opGoal
      rw [if_pos (by kernel_rfl)]
      intro x hb hd K hk
      clear hd
      go_wp2_with fail
      exact hk _ _ rfl trivial (Below.refl _ _)
    rintro _ rfl
    simp only [Act.put, List.setIfInBounds_toArray, List.set_cons_succ, List.set_cons_zero]
    refine ⟨?_, ?_⟩
    focus
      unfold opGoal
      rw [if_pos (by kernel_rfl)]
      intro x hb hd K hk
      clear hd
      have l0 := cell_keep hb d0
      have l1 := cell_keep hb d1
      have l2 := cell_keep hb d2
      have l3 := cell_keep hb d3
      have l4 := cell_keep hb d4
      go_wp2_with fail
      exact hk _ _ rfl trivial (Below.refl _ _)
    rintro _ rfl
    simp only [Act.put, List.setIfInBounds_toArray, List.set_cons_succ, List.set_cons_zero]
    refine ⟨?_, ?_⟩
    focus
      unfold opGoal
      rw [if_pos (by kernel_rfl)]
      intro x hb hd K hk
      clear hd
      go_wp2_with fail
      exact hk _ _ rfl trivial (Below.refl _ _)
    rintro _ rfl
    simp only [Act.put, List.setIfInBounds_toArray, List.set_cons_succ, List.set_cons_zero]
    refine ⟨?_, ?_⟩
    focus
      unfold opGoal
      rw [if_pos (by kernel_rfl)]
      intro x hb hd K hk
      clear hd
      have hsz := hb.size
      have HC := Lib.hid (KC.out x (HV.out.below hb))
      go_wp2_with fail
      refine HC.out.mono ?_
      rintro e x' ⟨A1, c1, vs, rfl, ho, ha, hb'⟩
      rw [List.length_map, ← HKL.out] at ho ⊢
      obtain ⟨A', c', he, hnc, -⟩ := own_form ho
      injection he with he1 _ he3
      subst he1 he3
      exact hk _ _ ⟨_, _, rfl⟩ ⟨A1, c1, vs, rfl, hnc, own_mono ho hsz, ha.mono hsz⟩ hb'
    rintro _ ⟨A1, c1, rfl⟩
    simp only [Act.put, List.setIfInBounds_toArray, List.set_cons_succ, List.set_cons_zero]
    refine ⟨?_, ?_⟩
    focus
      unfold opGoal
      rw [if_pos (by kernel_rfl)]
      intro x hb hd K hk
      clear hd
      go_wp2_with fail
      refine hk _ _ ⟨_, rfl⟩ ?_ ((Below.refl _ _).alloc (Nat.le_refl _) _)
      intro g' hg
      injection hg with hg
      injection hg with hg
      injection hg with hg
      subst hg
      exact ⟨Blk.new x _ _, hb.size⟩
    rintro _ ⟨gx, rfl⟩
    simp only [Act.put, List.setIfInBounds_toArray, List.set_cons_succ, List.set_cons_zero]
    intro y hby hf
    simp only [List.drop_succ_cons, List.drop_zero]
    have hk4 := hf 4 (kidsG w.heap.size kl (ks.map flat)) (.slice A1 kl c1) (by kernel_rfl) (by kernel_rfl)
    obtain ⟨hg5, hgw⟩ := (hf 5 (newG 98 #[.int .i64 0, .int .i64 0, .int .i64 0, .int .i64 0, .string ⟨#[]⟩] w.heap.size) (.pointer (some ⟨gx, 0, none⟩)) (by kernel_rfl) (by kernel_rfl)) gx rfl
    obtain ⟨_, _, vs4, he4, hcl, ho4, ha4⟩ := hk4
    injection he4 with he4 _ he5
    subst he4 he5
    have z0 := hg5.cell 0
    have z1 := hg5.cell 1
    have z2 := hg5.cell 2
    have z3 := hg5.cell 3
    have z4 := hg5.cell 4
    have y0 := hg5.frozen 0
    have y1 := hg5.frozen 1
    have y2 := hg5.frozen 2
    have y3 := hg5.frozen 3
    have y4 := hg5.frozen 4
    simp only [List.getElem?_toArray, List.getElem?_cons_zero, List.getElem?_cons_succ] at z0 z1 z2 z3 z4
    clear hf KC d0 d1 d2 d3 d4 hbl hm1
    have HQ5 := Lib.hid hg5
    have HO4 := Lib.hid ho4
    have HA4 := Lib.hid ha4
    have HBY := Lib.hid hby
    clear hg5 ho4 ha4 hby
    go_upto_region 1 with (fail)
    obtain ⟨W', hW1⟩ : ∃ W', W' = (((((y.setCell ⟨gx, 0, none⟩ (.int .i64 kd)).setCell ⟨gx, 1, none⟩ (.int .i64 n)).setCell ⟨gx, 2, none⟩ (.int .i64 Zk)).setCell ⟨gx, 3, none⟩ (.int .i64 Zz)).setCell ⟨gx, 4, none⟩ (.string ⟨s.toArray⟩)) := ⟨_, rfl⟩
    rw [← hW1]
    have hB1 : But gx y W' := by
      rw [hW1]
      exact ((((But.set y 0 _).trans (But.set _ 1 _)).trans (But.set _ 2 _)).trans (But.set _ 3 _)).trans (But.set _ 4 _)
    have HBX := Lib.hid (show Blk W' gx 98 #[.int .i64 kd, .int .i64 n, .int .i64 Zk, .int .i64 Zz, .string ⟨s.toArray⟩] from by
      rw [hW1]
      simpa using ((((HQ5.out.set 0 (.int .i64 kd)).set 1 (.int .i64 n)).set 2 (.int .i64 Zk)).set 3 (.int .i64 Zz)).set 4 (.string ⟨s.toArray⟩))
    have HBW1 := Lib.hid (show Below w.heap.size w W' from HBY.out.trans (hB1.below hgw HBY.out.size))
    have HKS := Lib.hid (show KdS base W' A1 (ks.map flat) from KdS.of_own (own_but HO4.out hB1 HQ5.out (by decide)) (by rw [List.length_map]; exact HKL.out) (kids_ne HA4.out HQ5.out hB1 HKZ.out))
    have HS := Lib.hid (St.start (H := Hh) (HWR.out.below HBW1.out) HKS.out (Nat.le_trans HBW.out HBW1.out.size) ⟨HXX.out.2.2, HH9.out⟩)
    have HF := Lib.hid (FrW.refl base W')
    clear hW1 hB1 z0 z1 z2 z3 z4 y0 y1 y2 y3 y4 HO4 HA4 HQ5
    have hxx := HXX.out
    have hh9 := HH9.out
    have hHh : 1 ≤ Hh := by rw [HHQ.out]; exact HH1.out
    have hkd := HKD.out
    subst hkd
    obtain ⟨fl, hfl⟩ : ∃ fl, fl = (flatAll ks).length := ⟨_, rfl⟩
    have HFL := Lib.hid hfl
    rw [← hfl] at hxx ⊢
    clear hfl
    have q0 := HBX.out.cell 0
    have q1 := HBX.out.cell 1
    simp only [List.getElem?_toArray, List.getElem?_cons_zero, List.getElem?_cons_succ] at q0 q1
    have q4 := (HBX.out.others HF.out.others (by decide)).cell 4
    simp only [List.getElem?_toArray, List.getElem?_cons_zero, List.getElem?_cons_succ] at q4
    have l4 := Later.cell q4
    have HOPC := Lib.hid (fun (W2 : World) hW => St.op_ (HS.out.below (W' := W2) hW) 1 0 0 s (fun m _ => by simp [okI, placeA, placeB, countA, HSL.out]) (by omega))
    go_upto_region 5 with (fail)
    clear q4
    refine wp_region_mid 5 _ rfl rfl (by kernel_rfl) (by kernel_rfl) (by kernel_rfl) ?_
    apply EqGo.run
    focus
      kernel_rfl
    focus
      intro x K hK
      go_wp2_with fail
      first | exact hK x (Below.refl _ _) | exact Below.refl _ _
    simp only [Act.put, List.setIfInBounds_toArray, List.set_cons_succ, List.set_cons_zero]
    apply EqGo.run
    focus
      kernel_rfl
    focus
      intro x K hK
      go_wp2_with fail
      first | exact hK x (Below.refl _ _) | exact Below.refl _ _
    simp only [Act.put, List.setIfInBounds_toArray, List.set_cons_succ, List.set_cons_zero]
    apply EqGo.run
    focus
      kernel_rfl
    focus
      intro x K hK
      go_wp2_with fail
      first | exact hK x (Below.refl _ _) | exact Below.refl _ _
    simp only [Act.put, List.setIfInBounds_toArray, List.set_cons_succ, List.set_cons_zero]
    apply EqGo.run
    focus
      kernel_rfl
    focus
      intro x K hK
      go_wp2_with fail
      first | exact hK x (Below.refl _ _) | exact Below.refl _ _
    simp only [Act.put, List.setIfInBounds_toArray, List.set_cons_succ, List.set_cons_zero]
    apply EqGo.run
    focus
      kernel_rfl
    focus
      intro x K hK
      go_wp2_with fail
      first | exact hK x (Below.refl _ _) | exact Below.refl _ _
    simp only [Act.put, List.setIfInBounds_toArray, List.set_cons_succ, List.set_cons_zero]
    intro z K hK
    have HCC := Lib.hid (HOPC.out z.val z.below)
    have HFz := Lib.hid (FrW.of z.below HS.out.bw)
    clear HOPC l4
    go_wp2_with fail
    refine HCC.out.mono ?_
    rintro e W' ⟨P1, rfl, hX1, hL1, hP1, hs', hf'⟩
    replace HS := Lib.hid hs'
    replace HF := Lib.hid ((HF.out.trans HFz.out).trans hf')
    clear hs' hf' HCC HFz
    refine hK _ _ ?_
    clear hK K
    intro z2
    replace HF := Lib.hid (HF.out.trans (FrW.of z2.below HS.out.bw))
    replace HS := Lib.hid (HS.out.below z2.below)
    generalize z2.val = W' at *
    clear z2
    clear q0 q1
    have HCC := Lib.hid (HS.out.push_ (now + 1) 1 (by omega) (by omega) (by omega))
    go_wp2_with fail
    refine HCC.out.mono ?_
    rintro e W' ⟨rfl, hs', hf'⟩
    replace HS := Lib.hid hs'
    replace HF := Lib.hid (HF.out.trans hf')
    clear hs' hf' HCC
    have HFIN := Lib.hid ((HS.out.done (sz := 8 * (1 + fl) - 3) (by omega)).of HBW1.out HBW.out)
    rw [HFL.out] at HFIN
    go_wp2_with fail
    go_returns
    exact HFIN.out
set_option maxRecDepth 100000 in
set_option maxHeartbeats 8000000 in
theorem wd2 (kd : Int) (hkd : kd = 2) (n : Int) (s : List UInt8) (ks : List Tr) (hkz : ∀ t ∈ ks, t.kind ≠ 0) (hs : s.length ≤ 2000) (h1 : 1 ≤ heightT (.mk kd n s ks))  : WordOk (.mk kd n s ks) := by
  have HKZ := Lib.hid hkz
  have HSL := Lib.hid hs
  have HH1 := Lib.hid h1
  clear hkz hs h1
  have HKD := Lib.hid hkd
  clear hkd
  intro base g X now high v w h hv hbw hX hnow hhi
  rw [flat_size] at hX hnow ⊢
  have KC := Lib.hid (show ∀ W, SlRd W v (flat (.mk kd n s ks)) → Calls Tryd.prog 64 #[v] W (KidsRet (ks.map flat) W) from fun W h => by
    rw [← kidsL_flat kd n s ks]
    exact kids_any v _ W h (by rw [flat_size]; omega))
  have hH9 : now + heightT (.mk kd n s ks) ≤ 30000000 := by have := heightT_len (.mk kd n s ks); rw [flat_size] at this; omega
  have HV := Lib.hid hv.rd
  have HWR := Lib.hid h
  obtain ⟨A0, cp0, hve, hrd, hc0, hm0, -⟩ := hv.rd
  have h0 : 0 < (flat (.mk kd n s ks)).length := flat_pos _
  obtain ⟨b, o, rfl, hbl⟩ := hrd.addr h0
  have hx := hrd.at_ h0
  rw [show (flat (.mk kd n s ks))[0] = ⟨kd, n, ks.length, ((1 + (flatAll ks).length : Nat) : Int), s⟩ by simp [flat_mk]] at hx
  have d0 := hx.2 0 _ rfl
  have d1 := hx.2 1 _ rfl
  have d2 := hx.2 2 _ rfl
  have d3 := hx.2 3 _ rfl
  have d4 := hx.2 4 _ rfl
  simp only [Nat.zero_mul, Nat.add_zero] at d0 d1 d2 d3 d4
  subst hve
  obtain ⟨m, hml⟩ : ∃ m, m = (flat (.mk kd n s ks)).length := ⟨_, rfl⟩
  have hm1 : 0 < m := by omega
  rw [← hml] at KC HV ⊢
  have hkn := len_flatAll ks
  have HKN := Lib.hid hkn
  have HH9 := Lib.hid hH9
  have HXX := Lib.hid (And.intro hX (And.intro hnow hhi))
  have HBW := Lib.hid hbw
  obtain ⟨Hh, hHh⟩ : ∃ Hh, Hh = heightT (.mk kd n s ks) := ⟨_, rfl⟩
  rw [← hHh]
  rw [← hHh] at HH9
  have HHQ := Lib.hid hHh
  obtain ⟨Zk, hZk⟩ : ∃ Zk : Int, Zk = ks.length := ⟨_, rfl⟩
  obtain ⟨Zz, hZz⟩ : ∃ Zz : Int, Zz = ((1 + (flatAll ks).length : Nat) : Int) := ⟨_, rfl⟩
  rw [← hZk] at d2
  rw [← hZz] at d3
  have HZK := Lib.hid hZk
  obtain ⟨kl, hkl⟩ : ∃ kl, kl = ks.length := ⟨_, rfl⟩
  have HKL := Lib.hid hkl
  have HZZ := Lib.hid hZz
  clear hx hrd hc0 hm0 hkn hml h0 hv h hH9 hX hnow hhi hbw hHh hZk hZz hkl
  go_enter Tryd.func93, Tryd.ntmps93
  go_upto_region 0 with (fail)
  apply wp_region_relA 6 [eqT _, eqT _, eqT (.agg #[.int .i64 kd, .int .i64 n, .int .i64 Zk, .int .i64 Zz, .string ⟨s.toArray⟩]), eqT _, kidsG w.heap.size kl (ks.map flat), newG 98 #[.int .i64 0, .int .i64 0, .int .i64 0, .int .i64 0, .string ⟨#[]⟩] w.heap.size] (by kernel_rfl) (by kernel_rfl) (by kernel_rfl) rfl
  focus
    refine ⟨?_, ?_⟩
    focus
      unfold opGoal
      rw [if_pos (by kernel_rfl)]
      intro x hb hd K hk
      clear hd
      go_wp2_with fail
      exact hk _ _ rfl trivial (Below.refl _ _)
    rintro _ rfl
    simp only [Act.put, List.setIfInBounds_toArray, List.set_cons_succ, List.set_cons_zero]
    refine ⟨?_, ?_⟩
    focus
      unfold opGoal
      rw [if_pos (by kernel_rfl)]
      intro x hb hd K hk
      clear hd
      go_wp2_with fail
      exact hk _ _ rfl trivial (Below.refl _ _)
    rintro _ rfl
    simp only [Act.put, List.setIfInBounds_toArray, List.set_cons_succ, List.set_cons_zero]
    refine ⟨?_, ?_⟩
    focus
      unfold opGoal
      rw [if_pos (by kernel_rfl)]
      intro x hb hd K hk
      clear hd
      have l0 := cell_keep hb d0
      have l1 := cell_keep hb d1
      have l2 := cell_keep hb d2
      have l3 := cell_keep hb d3
      have l4 := cell_keep hb d4
      go_wp2_with fail
      exact hk _ _ rfl trivial (Below.refl _ _)
    rintro _ rfl
    simp only [Act.put, List.setIfInBounds_toArray, List.set_cons_succ, List.set_cons_zero]
    refine ⟨?_, ?_⟩
    focus
      unfold opGoal
      rw [if_pos (by kernel_rfl)]
      intro x hb hd K hk
      clear hd
      go_wp2_with fail
      exact hk _ _ rfl trivial (Below.refl _ _)
    rintro _ rfl
    simp only [Act.put, List.setIfInBounds_toArray, List.set_cons_succ, List.set_cons_zero]
    refine ⟨?_, ?_⟩
    focus
      unfold opGoal
      rw [if_pos (by kernel_rfl)]
      intro x hb hd K hk
      clear hd
      have hsz := hb.size
      have HC := Lib.hid (KC.out x (HV.out.below hb))
      go_wp2_with fail
      refine HC.out.mono ?_
      rintro e x' ⟨A1, c1, vs, rfl, ho, ha, hb'⟩
      rw [List.length_map, ← HKL.out] at ho ⊢
      obtain ⟨A', c', he, hnc, -⟩ := own_form ho
      injection he with he1 _ he3
      subst he1 he3
      exact hk _ _ ⟨_, _, rfl⟩ ⟨A1, c1, vs, rfl, hnc, own_mono ho hsz, ha.mono hsz⟩ hb'
    rintro _ ⟨A1, c1, rfl⟩
    simp only [Act.put, List.setIfInBounds_toArray, List.set_cons_succ, List.set_cons_zero]
    refine ⟨?_, ?_⟩
    focus
      unfold opGoal
      rw [if_pos (by kernel_rfl)]
      intro x hb hd K hk
      clear hd
      go_wp2_with fail
      refine hk _ _ ⟨_, rfl⟩ ?_ ((Below.refl _ _).alloc (Nat.le_refl _) _)
      intro g' hg
      injection hg with hg
      injection hg with hg
      injection hg with hg
      subst hg
      exact ⟨Blk.new x _ _, hb.size⟩
    rintro _ ⟨gx, rfl⟩
    simp only [Act.put, List.setIfInBounds_toArray, List.set_cons_succ, List.set_cons_zero]
    intro y hby hf
    simp only [List.drop_succ_cons, List.drop_zero]
    have hk4 := hf 4 (kidsG w.heap.size kl (ks.map flat)) (.slice A1 kl c1) (by kernel_rfl) (by kernel_rfl)
    obtain ⟨hg5, hgw⟩ := (hf 5 (newG 98 #[.int .i64 0, .int .i64 0, .int .i64 0, .int .i64 0, .string ⟨#[]⟩] w.heap.size) (.pointer (some ⟨gx, 0, none⟩)) (by kernel_rfl) (by kernel_rfl)) gx rfl
    obtain ⟨_, _, vs4, he4, hcl, ho4, ha4⟩ := hk4
    injection he4 with he4 _ he5
    subst he4 he5
    have z0 := hg5.cell 0
    have z1 := hg5.cell 1
    have z2 := hg5.cell 2
    have z3 := hg5.cell 3
    have z4 := hg5.cell 4
    have y0 := hg5.frozen 0
    have y1 := hg5.frozen 1
    have y2 := hg5.frozen 2
    have y3 := hg5.frozen 3
    have y4 := hg5.frozen 4
    simp only [List.getElem?_toArray, List.getElem?_cons_zero, List.getElem?_cons_succ] at z0 z1 z2 z3 z4
    clear hf KC d0 d1 d2 d3 d4 hbl hm1
    have HQ5 := Lib.hid hg5
    have HO4 := Lib.hid ho4
    have HA4 := Lib.hid ha4
    have HBY := Lib.hid hby
    clear hg5 ho4 ha4 hby
    go_upto_region 1 with (fail)
    obtain ⟨W', hW1⟩ : ∃ W', W' = (((((y.setCell ⟨gx, 0, none⟩ (.int .i64 kd)).setCell ⟨gx, 1, none⟩ (.int .i64 n)).setCell ⟨gx, 2, none⟩ (.int .i64 Zk)).setCell ⟨gx, 3, none⟩ (.int .i64 Zz)).setCell ⟨gx, 4, none⟩ (.string ⟨s.toArray⟩)) := ⟨_, rfl⟩
    rw [← hW1]
    have hB1 : But gx y W' := by
      rw [hW1]
      exact ((((But.set y 0 _).trans (But.set _ 1 _)).trans (But.set _ 2 _)).trans (But.set _ 3 _)).trans (But.set _ 4 _)
    have HBX := Lib.hid (show Blk W' gx 98 #[.int .i64 kd, .int .i64 n, .int .i64 Zk, .int .i64 Zz, .string ⟨s.toArray⟩] from by
      rw [hW1]
      simpa using ((((HQ5.out.set 0 (.int .i64 kd)).set 1 (.int .i64 n)).set 2 (.int .i64 Zk)).set 3 (.int .i64 Zz)).set 4 (.string ⟨s.toArray⟩))
    have HBW1 := Lib.hid (show Below w.heap.size w W' from HBY.out.trans (hB1.below hgw HBY.out.size))
    have HKS := Lib.hid (show KdS base W' A1 (ks.map flat) from KdS.of_own (own_but HO4.out hB1 HQ5.out (by decide)) (by rw [List.length_map]; exact HKL.out) (kids_ne HA4.out HQ5.out hB1 HKZ.out))
    have HS := Lib.hid (St.start (H := Hh) (HWR.out.below HBW1.out) HKS.out (Nat.le_trans HBW.out HBW1.out.size) ⟨HXX.out.2.2, HH9.out⟩)
    have HF := Lib.hid (FrW.refl base W')
    clear hW1 hB1 z0 z1 z2 z3 z4 y0 y1 y2 y3 y4 HO4 HA4 HQ5
    have hxx := HXX.out
    have hh9 := HH9.out
    have hHh : 1 ≤ Hh := by rw [HHQ.out]; exact HH1.out
    have hkd := HKD.out
    subst hkd
    obtain ⟨fl, hfl⟩ : ∃ fl, fl = (flatAll ks).length := ⟨_, rfl⟩
    have HFL := Lib.hid hfl
    rw [← hfl] at hxx ⊢
    clear hfl
    have q0 := HBX.out.cell 0
    have q1 := HBX.out.cell 1
    simp only [List.getElem?_toArray, List.getElem?_cons_zero, List.getElem?_cons_succ] at q0 q1
    have q4 := (HBX.out.others HF.out.others (by decide)).cell 4
    simp only [List.getElem?_toArray, List.getElem?_cons_zero, List.getElem?_cons_succ] at q4
    have l4 := Later.cell q4
    have HOPC := Lib.hid (fun (W2 : World) hW => St.op_ (HS.out.below (W' := W2) hW) 2 0 0 s (fun m _ => by simp [okI, placeA, placeB, countA, HSL.out]) (by omega))
    go_upto_region 8 with (fail)
    clear q4
    refine wp_region_mid 5 _ rfl rfl (by kernel_rfl) (by kernel_rfl) (by kernel_rfl) ?_
    apply EqGo.run
    focus
      kernel_rfl
    focus
      intro x K hK
      go_wp2_with fail
      first | exact hK x (Below.refl _ _) | exact Below.refl _ _
    simp only [Act.put, List.setIfInBounds_toArray, List.set_cons_succ, List.set_cons_zero]
    apply EqGo.run
    focus
      kernel_rfl
    focus
      intro x K hK
      go_wp2_with fail
      first | exact hK x (Below.refl _ _) | exact Below.refl _ _
    simp only [Act.put, List.setIfInBounds_toArray, List.set_cons_succ, List.set_cons_zero]
    apply EqGo.run
    focus
      kernel_rfl
    focus
      intro x K hK
      go_wp2_with fail
      first | exact hK x (Below.refl _ _) | exact Below.refl _ _
    simp only [Act.put, List.setIfInBounds_toArray, List.set_cons_succ, List.set_cons_zero]
    apply EqGo.run
    focus
      kernel_rfl
    focus
      intro x K hK
      go_wp2_with fail
      first | exact hK x (Below.refl _ _) | exact Below.refl _ _
    simp only [Act.put, List.setIfInBounds_toArray, List.set_cons_succ, List.set_cons_zero]
    apply EqGo.run
    focus
      kernel_rfl
    focus
      intro x K hK
      go_wp2_with fail
      first | exact hK x (Below.refl _ _) | exact Below.refl _ _
    simp only [Act.put, List.setIfInBounds_toArray, List.set_cons_succ, List.set_cons_zero]
    intro z K hK
    have HCC := Lib.hid (HOPC.out z.val z.below)
    have HFz := Lib.hid (FrW.of z.below HS.out.bw)
    clear HOPC l4
    go_wp2_with fail
    refine HCC.out.mono ?_
    rintro e W' ⟨P1, rfl, hX1, hL1, hP1, hs', hf'⟩
    replace HS := Lib.hid hs'
    replace HF := Lib.hid ((HF.out.trans HFz.out).trans hf')
    clear hs' hf' HCC HFz
    refine hK _ _ ?_
    clear hK K
    intro z2
    replace HF := Lib.hid (HF.out.trans (FrW.of z2.below HS.out.bw))
    replace HS := Lib.hid (HS.out.below z2.below)
    generalize z2.val = W' at *
    clear z2
    clear q0 q1
    have HCC := Lib.hid (HS.out.push_ (now + 1) 1 (by omega) (by omega) (by omega))
    go_wp2_with fail
    refine HCC.out.mono ?_
    rintro e W' ⟨rfl, hs', hf'⟩
    replace HS := Lib.hid hs'
    replace HF := Lib.hid (HF.out.trans hf')
    clear hs' hf' HCC
    have HFIN := Lib.hid ((HS.out.done (sz := 8 * (1 + fl) - 3) (by omega)).of HBW1.out HBW.out)
    rw [HFL.out] at HFIN
    go_wp2_with fail
    go_returns
    exact HFIN.out
set_option maxRecDepth 100000 in
set_option maxHeartbeats 8000000 in
theorem wd3 (kd : Int) (hkd : kd = 3) (n : Int) (s : List UInt8) (ks : List Tr) (hkz : ∀ t ∈ ks, t.kind ≠ 0) (hs : s.length ≤ 2000) (h1 : 1 ≤ heightT (.mk kd n s ks)) (hw : ∀ t ∈ ks, WordOk t) : WordOk (.mk kd n s ks) := by
  have HKZ := Lib.hid hkz
  have HSL := Lib.hid hs
  have HH1 := Lib.hid h1
  have HWW := Lib.hid hw
  clear hkz hs h1 hw
  have HKD := Lib.hid hkd
  clear hkd
  intro base g X now high v w h hv hbw hX hnow hhi
  rw [flat_size] at hX hnow ⊢
  have KC := Lib.hid (show ∀ W, SlRd W v (flat (.mk kd n s ks)) → Calls Tryd.prog 64 #[v] W (KidsRet (ks.map flat) W) from fun W h => by
    rw [← kidsL_flat kd n s ks]
    exact kids_any v _ W h (by rw [flat_size]; omega))
  have hH9 : now + heightT (.mk kd n s ks) ≤ 30000000 := by have := heightT_len (.mk kd n s ks); rw [flat_size] at this; omega
  have HV := Lib.hid hv.rd
  have HWR := Lib.hid h
  obtain ⟨A0, cp0, hve, hrd, hc0, hm0, -⟩ := hv.rd
  have h0 : 0 < (flat (.mk kd n s ks)).length := flat_pos _
  obtain ⟨b, o, rfl, hbl⟩ := hrd.addr h0
  have hx := hrd.at_ h0
  rw [show (flat (.mk kd n s ks))[0] = ⟨kd, n, ks.length, ((1 + (flatAll ks).length : Nat) : Int), s⟩ by simp [flat_mk]] at hx
  have d0 := hx.2 0 _ rfl
  have d1 := hx.2 1 _ rfl
  have d2 := hx.2 2 _ rfl
  have d3 := hx.2 3 _ rfl
  have d4 := hx.2 4 _ rfl
  simp only [Nat.zero_mul, Nat.add_zero] at d0 d1 d2 d3 d4
  subst hve
  obtain ⟨m, hml⟩ : ∃ m, m = (flat (.mk kd n s ks)).length := ⟨_, rfl⟩
  have hm1 : 0 < m := by omega
  rw [← hml] at KC HV ⊢
  have hkn := len_flatAll ks
  have HKN := Lib.hid hkn
  have HH9 := Lib.hid hH9
  have HXX := Lib.hid (And.intro hX (And.intro hnow hhi))
  have HBW := Lib.hid hbw
  obtain ⟨Hh, hHh⟩ : ∃ Hh, Hh = heightT (.mk kd n s ks) := ⟨_, rfl⟩
  rw [← hHh]
  rw [← hHh] at HH9
  have HHQ := Lib.hid hHh
  obtain ⟨Zk, hZk⟩ : ∃ Zk : Int, Zk = ks.length := ⟨_, rfl⟩
  obtain ⟨Zz, hZz⟩ : ∃ Zz : Int, Zz = ((1 + (flatAll ks).length : Nat) : Int) := ⟨_, rfl⟩
  rw [← hZk] at d2
  rw [← hZz] at d3
  have HZK := Lib.hid hZk
  obtain ⟨kl, hkl⟩ : ∃ kl, kl = ks.length := ⟨_, rfl⟩
  have HKL := Lib.hid hkl
  have HZZ := Lib.hid hZz
  clear hx hrd hc0 hm0 hkn hml h0 hv h hH9 hX hnow hhi hbw hHh hZk hZz hkl
  go_enter Tryd.func93, Tryd.ntmps93
  go_upto_region 0 with (fail)
  apply wp_region_relA 6 [eqT _, eqT _, eqT (.agg #[.int .i64 kd, .int .i64 n, .int .i64 Zk, .int .i64 Zz, .string ⟨s.toArray⟩]), eqT _, kidsG w.heap.size kl (ks.map flat), newG 98 #[.int .i64 0, .int .i64 0, .int .i64 0, .int .i64 0, .string ⟨#[]⟩] w.heap.size] (by kernel_rfl) (by kernel_rfl) (by kernel_rfl) rfl
  focus
    refine ⟨?_, ?_⟩
    focus
      unfold opGoal
      rw [if_pos (by kernel_rfl)]
      intro x hb hd K hk
      clear hd
      go_wp2_with fail
      exact hk _ _ rfl trivial (Below.refl _ _)
    rintro _ rfl
    simp only [Act.put, List.setIfInBounds_toArray, List.set_cons_succ, List.set_cons_zero]
    refine ⟨?_, ?_⟩
    focus
      unfold opGoal
      rw [if_pos (by kernel_rfl)]
      intro x hb hd K hk
      clear hd
      go_wp2_with fail
      exact hk _ _ rfl trivial (Below.refl _ _)
    rintro _ rfl
    simp only [Act.put, List.setIfInBounds_toArray, List.set_cons_succ, List.set_cons_zero]
    refine ⟨?_, ?_⟩
    focus
      unfold opGoal
      rw [if_pos (by kernel_rfl)]
      intro x hb hd K hk
      clear hd
      have l0 := cell_keep hb d0
      have l1 := cell_keep hb d1
      have l2 := cell_keep hb d2
      have l3 := cell_keep hb d3
      have l4 := cell_keep hb d4
      go_wp2_with fail
      exact hk _ _ rfl trivial (Below.refl _ _)
    rintro _ rfl
    simp only [Act.put, List.setIfInBounds_toArray, List.set_cons_succ, List.set_cons_zero]
    refine ⟨?_, ?_⟩
    focus
      unfold opGoal
      rw [if_pos (by kernel_rfl)]
      intro x hb hd K hk
      clear hd
      go_wp2_with fail
      exact hk _ _ rfl trivial (Below.refl _ _)
    rintro _ rfl
    simp only [Act.put, List.setIfInBounds_toArray, List.set_cons_succ, List.set_cons_zero]
    refine ⟨?_, ?_⟩
    focus
      unfold opGoal
      rw [if_pos (by kernel_rfl)]
      intro x hb hd K hk
      clear hd
      have hsz := hb.size
      have HC := Lib.hid (KC.out x (HV.out.below hb))
      go_wp2_with fail
      refine HC.out.mono ?_
      rintro e x' ⟨A1, c1, vs, rfl, ho, ha, hb'⟩
      rw [List.length_map, ← HKL.out] at ho ⊢
      obtain ⟨A', c', he, hnc, -⟩ := own_form ho
      injection he with he1 _ he3
      subst he1 he3
      exact hk _ _ ⟨_, _, rfl⟩ ⟨A1, c1, vs, rfl, hnc, own_mono ho hsz, ha.mono hsz⟩ hb'
    rintro _ ⟨A1, c1, rfl⟩
    simp only [Act.put, List.setIfInBounds_toArray, List.set_cons_succ, List.set_cons_zero]
    refine ⟨?_, ?_⟩
    focus
      unfold opGoal
      rw [if_pos (by kernel_rfl)]
      intro x hb hd K hk
      clear hd
      go_wp2_with fail
      refine hk _ _ ⟨_, rfl⟩ ?_ ((Below.refl _ _).alloc (Nat.le_refl _) _)
      intro g' hg
      injection hg with hg
      injection hg with hg
      injection hg with hg
      subst hg
      exact ⟨Blk.new x _ _, hb.size⟩
    rintro _ ⟨gx, rfl⟩
    simp only [Act.put, List.setIfInBounds_toArray, List.set_cons_succ, List.set_cons_zero]
    intro y hby hf
    simp only [List.drop_succ_cons, List.drop_zero]
    have hk4 := hf 4 (kidsG w.heap.size kl (ks.map flat)) (.slice A1 kl c1) (by kernel_rfl) (by kernel_rfl)
    obtain ⟨hg5, hgw⟩ := (hf 5 (newG 98 #[.int .i64 0, .int .i64 0, .int .i64 0, .int .i64 0, .string ⟨#[]⟩] w.heap.size) (.pointer (some ⟨gx, 0, none⟩)) (by kernel_rfl) (by kernel_rfl)) gx rfl
    obtain ⟨_, _, vs4, he4, hcl, ho4, ha4⟩ := hk4
    injection he4 with he4 _ he5
    subst he4 he5
    have z0 := hg5.cell 0
    have z1 := hg5.cell 1
    have z2 := hg5.cell 2
    have z3 := hg5.cell 3
    have z4 := hg5.cell 4
    have y0 := hg5.frozen 0
    have y1 := hg5.frozen 1
    have y2 := hg5.frozen 2
    have y3 := hg5.frozen 3
    have y4 := hg5.frozen 4
    simp only [List.getElem?_toArray, List.getElem?_cons_zero, List.getElem?_cons_succ] at z0 z1 z2 z3 z4
    clear hf KC d0 d1 d2 d3 d4 hbl hm1
    have HQ5 := Lib.hid hg5
    have HO4 := Lib.hid ho4
    have HA4 := Lib.hid ha4
    have HBY := Lib.hid hby
    clear hg5 ho4 ha4 hby
    go_upto_region 1 with (fail)
    obtain ⟨W', hW1⟩ : ∃ W', W' = (((((y.setCell ⟨gx, 0, none⟩ (.int .i64 kd)).setCell ⟨gx, 1, none⟩ (.int .i64 n)).setCell ⟨gx, 2, none⟩ (.int .i64 Zk)).setCell ⟨gx, 3, none⟩ (.int .i64 Zz)).setCell ⟨gx, 4, none⟩ (.string ⟨s.toArray⟩)) := ⟨_, rfl⟩
    rw [← hW1]
    have hB1 : But gx y W' := by
      rw [hW1]
      exact ((((But.set y 0 _).trans (But.set _ 1 _)).trans (But.set _ 2 _)).trans (But.set _ 3 _)).trans (But.set _ 4 _)
    have HBX := Lib.hid (show Blk W' gx 98 #[.int .i64 kd, .int .i64 n, .int .i64 Zk, .int .i64 Zz, .string ⟨s.toArray⟩] from by
      rw [hW1]
      simpa using ((((HQ5.out.set 0 (.int .i64 kd)).set 1 (.int .i64 n)).set 2 (.int .i64 Zk)).set 3 (.int .i64 Zz)).set 4 (.string ⟨s.toArray⟩))
    have HBW1 := Lib.hid (show Below w.heap.size w W' from HBY.out.trans (hB1.below hgw HBY.out.size))
    have HKS := Lib.hid (show KdS base W' A1 (ks.map flat) from KdS.of_own (own_but HO4.out hB1 HQ5.out (by decide)) (by rw [List.length_map]; exact HKL.out) (kids_ne HA4.out HQ5.out hB1 HKZ.out))
    have HS := Lib.hid (St.start (H := Hh) (HWR.out.below HBW1.out) HKS.out (Nat.le_trans HBW.out HBW1.out.size) ⟨HXX.out.2.2, HH9.out⟩)
    have HF := Lib.hid (FrW.refl base W')
    clear hW1 hB1 z0 z1 z2 z3 z4 y0 y1 y2 y3 y4 HO4 HA4 HQ5
    have hxx := HXX.out
    have hh9 := HH9.out
    have hHh : 1 ≤ Hh := by rw [HHQ.out]; exact HH1.out
    have hkd := HKD.out
    subst hkd
    have HHK := Lib.hid (show ∀ i (h : i < ks.length), heightT ks[i] + i ≤ Hh from fun i h => by
      have := kid_h 3 n s ks i h
      rw [HHQ.out]
      simpa [addH] using this)
    have hkn := HKN.out
    have hkk := HKL.out
    have HCC := Lib.hid (HS.out.sub' (now' := now + min kl 2) (hh := Hh) (sz := 8 * (flatAll ks).length - 2 * kl) (fun Y hi hp => together_any ks HWW.out 3 0 (by omega) (.inl rfl) base g (X ++ Y) now hi Hh A1 c1 kl W' hp.wr.wr hp.kd HKL.out hp.wr.bw HHK.out (by rw [List.length_append]; have := hp.n; omega) (by omega) (by have := hp.wr.hi; have := hp.cap; omega) hh9) (Nat.le_refl _))
    have hmn : min (kl : Int) 2 = ((min kl 2 : Nat) : Int) := by omega
    have hm8 : kl ≤ 30000000 := by omega
    have hklf : kl ≤ (flatAll ks).length := by omega
    clear hkn hkk
    obtain ⟨fl, hfl⟩ : ∃ fl, fl = (flatAll ks).length := ⟨_, rfl⟩
    have HFL := Lib.hid hfl
    rw [← hfl] at hxx HCC hklf ⊢
    clear hfl
    obtain ⟨mn, hmm⟩ : ∃ mn, mn = min kl 2 := ⟨_, rfl⟩
    have hmn2 : mn ≤ 2 ∧ mn ≤ kl := by omega
    rw [← hmm] at hmn HCC
    clear hmm
    have q0 := HBX.out.cell 0
    have q1 := HBX.out.cell 1
    simp only [List.getElem?_toArray, List.getElem?_cons_zero, List.getElem?_cons_succ] at q0 q1
    go_wp2_with fail
    refine HCC.out.mono ?_
    rintro e W' ⟨rfl, hs', hf'⟩
    replace HS := Lib.hid hs'
    replace HF := Lib.hid (HF.out.trans hf')
    clear hs' hf' HCC q0 q1
    have HCC := Lib.hid (HS.out.op_ 3 mn 0 [] (fun m _ => by simp [okI, placeA, placeB, countA]) (by omega))
    go_wp2_with fail
    refine HCC.out.mono ?_
    rintro e W' ⟨P1, rfl, hX1, hL1, hP1, hs', hf'⟩
    replace HS := Lib.hid hs'
    replace HF := Lib.hid (HF.out.trans hf')
    clear hs' hf' HCC
    have HCC := Lib.hid (HS.out.push_ (now + 1) (1 - (mn : Int)) (by omega) (by omega) (by omega))
    go_wp2_with fail
    refine HCC.out.mono ?_
    rintro e W' ⟨rfl, hs', hf'⟩
    replace HS := Lib.hid hs'
    replace HF := Lib.hid (HF.out.trans hf')
    clear hs' hf' HCC
    have HFIN := Lib.hid ((HS.out.done (sz := 8 * (1 + fl) - 3) (by omega)).of HBW1.out HBW.out)
    rw [HFL.out] at HFIN
    go_wp2_with fail
    go_returns
    exact HFIN.out
set_option maxRecDepth 100000 in
set_option maxHeartbeats 8000000 in
theorem wd4 (kd : Int) (hkd : kd = 4) (n : Int) (s : List UInt8) (ks : List Tr) (hkz : ∀ t ∈ ks, t.kind ≠ 0) (hs : s.length ≤ 2000) (h1 : 1 ≤ heightT (.mk kd n s ks)) (hw : ∀ t ∈ ks, WordOk t) : WordOk (.mk kd n s ks) := by
  have HKZ := Lib.hid hkz
  have HSL := Lib.hid hs
  have HH1 := Lib.hid h1
  have HWW := Lib.hid hw
  clear hkz hs h1 hw
  have HKD := Lib.hid hkd
  clear hkd
  intro base g X now high v w h hv hbw hX hnow hhi
  rw [flat_size] at hX hnow ⊢
  have KC := Lib.hid (show ∀ W, SlRd W v (flat (.mk kd n s ks)) → Calls Tryd.prog 64 #[v] W (KidsRet (ks.map flat) W) from fun W h => by
    rw [← kidsL_flat kd n s ks]
    exact kids_any v _ W h (by rw [flat_size]; omega))
  have hH9 : now + heightT (.mk kd n s ks) ≤ 30000000 := by have := heightT_len (.mk kd n s ks); rw [flat_size] at this; omega
  have HV := Lib.hid hv.rd
  have HWR := Lib.hid h
  obtain ⟨A0, cp0, hve, hrd, hc0, hm0, -⟩ := hv.rd
  have h0 : 0 < (flat (.mk kd n s ks)).length := flat_pos _
  obtain ⟨b, o, rfl, hbl⟩ := hrd.addr h0
  have hx := hrd.at_ h0
  rw [show (flat (.mk kd n s ks))[0] = ⟨kd, n, ks.length, ((1 + (flatAll ks).length : Nat) : Int), s⟩ by simp [flat_mk]] at hx
  have d0 := hx.2 0 _ rfl
  have d1 := hx.2 1 _ rfl
  have d2 := hx.2 2 _ rfl
  have d3 := hx.2 3 _ rfl
  have d4 := hx.2 4 _ rfl
  simp only [Nat.zero_mul, Nat.add_zero] at d0 d1 d2 d3 d4
  subst hve
  obtain ⟨m, hml⟩ : ∃ m, m = (flat (.mk kd n s ks)).length := ⟨_, rfl⟩
  have hm1 : 0 < m := by omega
  rw [← hml] at KC HV ⊢
  have hkn := len_flatAll ks
  have HKN := Lib.hid hkn
  have HH9 := Lib.hid hH9
  have HXX := Lib.hid (And.intro hX (And.intro hnow hhi))
  have HBW := Lib.hid hbw
  obtain ⟨Hh, hHh⟩ : ∃ Hh, Hh = heightT (.mk kd n s ks) := ⟨_, rfl⟩
  rw [← hHh]
  rw [← hHh] at HH9
  have HHQ := Lib.hid hHh
  obtain ⟨Zk, hZk⟩ : ∃ Zk : Int, Zk = ks.length := ⟨_, rfl⟩
  obtain ⟨Zz, hZz⟩ : ∃ Zz : Int, Zz = ((1 + (flatAll ks).length : Nat) : Int) := ⟨_, rfl⟩
  rw [← hZk] at d2
  rw [← hZz] at d3
  have HZK := Lib.hid hZk
  obtain ⟨kl, hkl⟩ : ∃ kl, kl = ks.length := ⟨_, rfl⟩
  have HKL := Lib.hid hkl
  have HZZ := Lib.hid hZz
  clear hx hrd hc0 hm0 hkn hml h0 hv h hH9 hX hnow hhi hbw hHh hZk hZz hkl
  go_enter Tryd.func93, Tryd.ntmps93
  go_upto_region 0 with (fail)
  apply wp_region_relA 6 [eqT _, eqT _, eqT (.agg #[.int .i64 kd, .int .i64 n, .int .i64 Zk, .int .i64 Zz, .string ⟨s.toArray⟩]), eqT _, kidsG w.heap.size kl (ks.map flat), newG 98 #[.int .i64 0, .int .i64 0, .int .i64 0, .int .i64 0, .string ⟨#[]⟩] w.heap.size] (by kernel_rfl) (by kernel_rfl) (by kernel_rfl) rfl
  focus
    refine ⟨?_, ?_⟩
    focus
      unfold opGoal
      rw [if_pos (by kernel_rfl)]
      intro x hb hd K hk
      clear hd
      go_wp2_with fail
      exact hk _ _ rfl trivial (Below.refl _ _)
    rintro _ rfl
    simp only [Act.put, List.setIfInBounds_toArray, List.set_cons_succ, List.set_cons_zero]
    refine ⟨?_, ?_⟩
    focus
      unfold opGoal
      rw [if_pos (by kernel_rfl)]
      intro x hb hd K hk
      clear hd
      go_wp2_with fail
      exact hk _ _ rfl trivial (Below.refl _ _)
    rintro _ rfl
    simp only [Act.put, List.setIfInBounds_toArray, List.set_cons_succ, List.set_cons_zero]
    refine ⟨?_, ?_⟩
    focus
      unfold opGoal
      rw [if_pos (by kernel_rfl)]
      intro x hb hd K hk
      clear hd
      have l0 := cell_keep hb d0
      have l1 := cell_keep hb d1
      have l2 := cell_keep hb d2
      have l3 := cell_keep hb d3
      have l4 := cell_keep hb d4
      go_wp2_with fail
      exact hk _ _ rfl trivial (Below.refl _ _)
    rintro _ rfl
    simp only [Act.put, List.setIfInBounds_toArray, List.set_cons_succ, List.set_cons_zero]
    refine ⟨?_, ?_⟩
    focus
      unfold opGoal
      rw [if_pos (by kernel_rfl)]
      intro x hb hd K hk
      clear hd
      go_wp2_with fail
      exact hk _ _ rfl trivial (Below.refl _ _)
    rintro _ rfl
    simp only [Act.put, List.setIfInBounds_toArray, List.set_cons_succ, List.set_cons_zero]
    refine ⟨?_, ?_⟩
    focus
      unfold opGoal
      rw [if_pos (by kernel_rfl)]
      intro x hb hd K hk
      clear hd
      have hsz := hb.size
      have HC := Lib.hid (KC.out x (HV.out.below hb))
      go_wp2_with fail
      refine HC.out.mono ?_
      rintro e x' ⟨A1, c1, vs, rfl, ho, ha, hb'⟩
      rw [List.length_map, ← HKL.out] at ho ⊢
      obtain ⟨A', c', he, hnc, -⟩ := own_form ho
      injection he with he1 _ he3
      subst he1 he3
      exact hk _ _ ⟨_, _, rfl⟩ ⟨A1, c1, vs, rfl, hnc, own_mono ho hsz, ha.mono hsz⟩ hb'
    rintro _ ⟨A1, c1, rfl⟩
    simp only [Act.put, List.setIfInBounds_toArray, List.set_cons_succ, List.set_cons_zero]
    refine ⟨?_, ?_⟩
    focus
      unfold opGoal
      rw [if_pos (by kernel_rfl)]
      intro x hb hd K hk
      clear hd
      go_wp2_with fail
      refine hk _ _ ⟨_, rfl⟩ ?_ ((Below.refl _ _).alloc (Nat.le_refl _) _)
      intro g' hg
      injection hg with hg
      injection hg with hg
      injection hg with hg
      subst hg
      exact ⟨Blk.new x _ _, hb.size⟩
    rintro _ ⟨gx, rfl⟩
    simp only [Act.put, List.setIfInBounds_toArray, List.set_cons_succ, List.set_cons_zero]
    intro y hby hf
    simp only [List.drop_succ_cons, List.drop_zero]
    have hk4 := hf 4 (kidsG w.heap.size kl (ks.map flat)) (.slice A1 kl c1) (by kernel_rfl) (by kernel_rfl)
    obtain ⟨hg5, hgw⟩ := (hf 5 (newG 98 #[.int .i64 0, .int .i64 0, .int .i64 0, .int .i64 0, .string ⟨#[]⟩] w.heap.size) (.pointer (some ⟨gx, 0, none⟩)) (by kernel_rfl) (by kernel_rfl)) gx rfl
    obtain ⟨_, _, vs4, he4, hcl, ho4, ha4⟩ := hk4
    injection he4 with he4 _ he5
    subst he4 he5
    have z0 := hg5.cell 0
    have z1 := hg5.cell 1
    have z2 := hg5.cell 2
    have z3 := hg5.cell 3
    have z4 := hg5.cell 4
    have y0 := hg5.frozen 0
    have y1 := hg5.frozen 1
    have y2 := hg5.frozen 2
    have y3 := hg5.frozen 3
    have y4 := hg5.frozen 4
    simp only [List.getElem?_toArray, List.getElem?_cons_zero, List.getElem?_cons_succ] at z0 z1 z2 z3 z4
    clear hf KC d0 d1 d2 d3 d4 hbl hm1
    have HQ5 := Lib.hid hg5
    have HO4 := Lib.hid ho4
    have HA4 := Lib.hid ha4
    have HBY := Lib.hid hby
    clear hg5 ho4 ha4 hby
    go_upto_region 1 with (fail)
    obtain ⟨W', hW1⟩ : ∃ W', W' = (((((y.setCell ⟨gx, 0, none⟩ (.int .i64 kd)).setCell ⟨gx, 1, none⟩ (.int .i64 n)).setCell ⟨gx, 2, none⟩ (.int .i64 Zk)).setCell ⟨gx, 3, none⟩ (.int .i64 Zz)).setCell ⟨gx, 4, none⟩ (.string ⟨s.toArray⟩)) := ⟨_, rfl⟩
    rw [← hW1]
    have hB1 : But gx y W' := by
      rw [hW1]
      exact ((((But.set y 0 _).trans (But.set _ 1 _)).trans (But.set _ 2 _)).trans (But.set _ 3 _)).trans (But.set _ 4 _)
    have HBX := Lib.hid (show Blk W' gx 98 #[.int .i64 kd, .int .i64 n, .int .i64 Zk, .int .i64 Zz, .string ⟨s.toArray⟩] from by
      rw [hW1]
      simpa using ((((HQ5.out.set 0 (.int .i64 kd)).set 1 (.int .i64 n)).set 2 (.int .i64 Zk)).set 3 (.int .i64 Zz)).set 4 (.string ⟨s.toArray⟩))
    have HBW1 := Lib.hid (show Below w.heap.size w W' from HBY.out.trans (hB1.below hgw HBY.out.size))
    have HKS := Lib.hid (show KdS base W' A1 (ks.map flat) from KdS.of_own (own_but HO4.out hB1 HQ5.out (by decide)) (by rw [List.length_map]; exact HKL.out) (kids_ne HA4.out HQ5.out hB1 HKZ.out))
    have HS := Lib.hid (St.start (H := Hh) (HWR.out.below HBW1.out) HKS.out (Nat.le_trans HBW.out HBW1.out.size) ⟨HXX.out.2.2, HH9.out⟩)
    have HF := Lib.hid (FrW.refl base W')
    clear hW1 hB1 z0 z1 z2 z3 z4 y0 y1 y2 y3 y4 HO4 HA4 HQ5
    have hxx := HXX.out
    have hh9 := HH9.out
    have hHh : 1 ≤ Hh := by rw [HHQ.out]; exact HH1.out
    have hkd := HKD.out
    subst hkd
    have HHK := Lib.hid (show ∀ i (h : i < ks.length), heightT ks[i] + i ≤ Hh from fun i h => by
      have := kid_h 4 n s ks i h
      rw [HHQ.out]
      simpa [addH] using this)
    have hkn := HKN.out
    have hkk := HKL.out
    have HCC := Lib.hid (HS.out.sub' (now' := now + min kl 2) (hh := Hh) (sz := 8 * (flatAll ks).length - 2 * kl) (fun Y hi hp => together_any ks HWW.out 4 0 (by omega) (.inl rfl) base g (X ++ Y) now hi Hh A1 c1 kl W' hp.wr.wr hp.kd HKL.out hp.wr.bw HHK.out (by rw [List.length_append]; have := hp.n; omega) (by omega) (by have := hp.wr.hi; have := hp.cap; omega) hh9) (Nat.le_refl _))
    have hmn : min (kl : Int) 2 = ((min kl 2 : Nat) : Int) := by omega
    have hm8 : kl ≤ 30000000 := by omega
    have hklf : kl ≤ (flatAll ks).length := by omega
    clear hkn hkk
    obtain ⟨fl, hfl⟩ : ∃ fl, fl = (flatAll ks).length := ⟨_, rfl⟩
    have HFL := Lib.hid hfl
    rw [← hfl] at hxx HCC hklf ⊢
    clear hfl
    obtain ⟨mn, hmm⟩ : ∃ mn, mn = min kl 2 := ⟨_, rfl⟩
    have hmn2 : mn ≤ 2 ∧ mn ≤ kl := by omega
    rw [← hmm] at hmn HCC
    clear hmm
    have q0 := HBX.out.cell 0
    have q1 := HBX.out.cell 1
    simp only [List.getElem?_toArray, List.getElem?_cons_zero, List.getElem?_cons_succ] at q0 q1
    go_wp2_with fail
    refine HCC.out.mono ?_
    rintro e W' ⟨rfl, hs', hf'⟩
    replace HS := Lib.hid hs'
    replace HF := Lib.hid (HF.out.trans hf')
    clear hs' hf' HCC q0 q1
    have HCC := Lib.hid (HS.out.op_ 4 mn 0 [] (fun m _ => by simp [okI, placeA, placeB, countA]) (by omega))
    go_wp2_with fail
    refine HCC.out.mono ?_
    rintro e W' ⟨P1, rfl, hX1, hL1, hP1, hs', hf'⟩
    replace HS := Lib.hid hs'
    replace HF := Lib.hid (HF.out.trans hf')
    clear hs' hf' HCC
    have HCC := Lib.hid (HS.out.push_ (now + 1) (1 - (mn : Int)) (by omega) (by omega) (by omega))
    go_wp2_with fail
    refine HCC.out.mono ?_
    rintro e W' ⟨rfl, hs', hf'⟩
    replace HS := Lib.hid hs'
    replace HF := Lib.hid (HF.out.trans hf')
    clear hs' hf' HCC
    have HFIN := Lib.hid ((HS.out.done (sz := 8 * (1 + fl) - 3) (by omega)).of HBW1.out HBW.out)
    rw [HFL.out] at HFIN
    go_wp2_with fail
    go_returns
    exact HFIN.out
set_option maxRecDepth 100000 in
set_option maxHeartbeats 8000000 in
theorem wd5 (kd0 : Int) (h5 : 5 ≤ kd0) (h11 : kd0 ≤ 11) (n : Int) (s : List UInt8) (ks : List Tr) (hkz : ∀ t ∈ ks, t.kind ≠ 0) (hs : s.length ≤ 2000) (h1 : 1 ≤ heightT (.mk kd0 n s ks)) (hk1 : ks.length = 1) (hw0 : ∀ t ∈ ks, WordOk t) : WordOk (.mk kd0 n s ks) := by
  have HKZ := Lib.hid hkz
  have HSL := Lib.hid hs
  have HH1 := Lib.hid h1
  have HK1 := Lib.hid hk1
  have HW0 := Lib.hid hw0
  clear hkz hs h1 hk1 hw0
  obtain ⟨kd, hkd⟩ : ∃ kd : Int, kd = kd0 := ⟨_, rfl⟩
  subst hkd
  intro base g X now high v w h hv hbw hX hnow hhi
  rw [flat_size] at hX hnow ⊢
  have KC := Lib.hid (show ∀ W, SlRd W v (flat (.mk kd n s ks)) → Calls Tryd.prog 64 #[v] W (KidsRet (ks.map flat) W) from fun W h => by
    rw [← kidsL_flat kd n s ks]
    exact kids_any v _ W h (by rw [flat_size]; omega))
  have hH9 : now + heightT (.mk kd n s ks) ≤ 30000000 := by have := heightT_len (.mk kd n s ks); rw [flat_size] at this; omega
  have HV := Lib.hid hv.rd
  have HWR := Lib.hid h
  obtain ⟨A0, cp0, hve, hrd, hc0, hm0, -⟩ := hv.rd
  have h0 : 0 < (flat (.mk kd n s ks)).length := flat_pos _
  obtain ⟨b, o, rfl, hbl⟩ := hrd.addr h0
  have hx := hrd.at_ h0
  rw [show (flat (.mk kd n s ks))[0] = ⟨kd, n, ks.length, ((1 + (flatAll ks).length : Nat) : Int), s⟩ by simp [flat_mk]] at hx
  have d0 := hx.2 0 _ rfl
  have d1 := hx.2 1 _ rfl
  have d2 := hx.2 2 _ rfl
  have d3 := hx.2 3 _ rfl
  have d4 := hx.2 4 _ rfl
  simp only [Nat.zero_mul, Nat.add_zero] at d0 d1 d2 d3 d4
  subst hve
  obtain ⟨m, hml⟩ : ∃ m, m = (flat (.mk kd n s ks)).length := ⟨_, rfl⟩
  have hm1 : 0 < m := by omega
  rw [← hml] at KC HV ⊢
  have hkn := len_flatAll ks
  have HKN := Lib.hid hkn
  have HH9 := Lib.hid hH9
  have HXX := Lib.hid (And.intro hX (And.intro hnow hhi))
  have HBW := Lib.hid hbw
  obtain ⟨Hh, hHh⟩ : ∃ Hh, Hh = heightT (.mk kd n s ks) := ⟨_, rfl⟩
  rw [← hHh]
  rw [← hHh] at HH9
  have HHQ := Lib.hid hHh
  obtain ⟨Zk, hZk⟩ : ∃ Zk : Int, Zk = ks.length := ⟨_, rfl⟩
  obtain ⟨Zz, hZz⟩ : ∃ Zz : Int, Zz = ((1 + (flatAll ks).length : Nat) : Int) := ⟨_, rfl⟩
  rw [← hZk] at d2
  rw [← hZz] at d3
  have HZK := Lib.hid hZk
  obtain ⟨kl, hkl⟩ : ∃ kl, kl = ks.length := ⟨_, rfl⟩
  have HKL := Lib.hid hkl
  have HZZ := Lib.hid hZz
  clear hx hrd hc0 hm0 hkn hml h0 hv h hH9 hX hnow hhi hbw hHh hZk hZz hkl
  go_enter Tryd.func93, Tryd.ntmps93
  go_upto_region 0 with (fail)
  apply wp_region_relA 6 [eqT _, eqT _, eqT (.agg #[.int .i64 kd, .int .i64 n, .int .i64 Zk, .int .i64 Zz, .string ⟨s.toArray⟩]), eqT _, kidsG w.heap.size kl (ks.map flat), newG 98 #[.int .i64 0, .int .i64 0, .int .i64 0, .int .i64 0, .string ⟨#[]⟩] w.heap.size] (by kernel_rfl) (by kernel_rfl) (by kernel_rfl) rfl
  focus
    refine ⟨?_, ?_⟩
    focus
      unfold opGoal
      rw [if_pos (by kernel_rfl)]
      intro x hb hd K hk
      clear hd
      go_wp2_with fail
      exact hk _ _ rfl trivial (Below.refl _ _)
    rintro _ rfl
    simp only [Act.put, List.setIfInBounds_toArray, List.set_cons_succ, List.set_cons_zero]
    refine ⟨?_, ?_⟩
    focus
      unfold opGoal
      rw [if_pos (by kernel_rfl)]
      intro x hb hd K hk
      clear hd
      go_wp2_with fail
      exact hk _ _ rfl trivial (Below.refl _ _)
    rintro _ rfl
    simp only [Act.put, List.setIfInBounds_toArray, List.set_cons_succ, List.set_cons_zero]
    refine ⟨?_, ?_⟩
    focus
      unfold opGoal
      rw [if_pos (by kernel_rfl)]
      intro x hb hd K hk
      clear hd
      have l0 := cell_keep hb d0
      have l1 := cell_keep hb d1
      have l2 := cell_keep hb d2
      have l3 := cell_keep hb d3
      have l4 := cell_keep hb d4
      go_wp2_with fail
      exact hk _ _ rfl trivial (Below.refl _ _)
    rintro _ rfl
    simp only [Act.put, List.setIfInBounds_toArray, List.set_cons_succ, List.set_cons_zero]
    refine ⟨?_, ?_⟩
    focus
      unfold opGoal
      rw [if_pos (by kernel_rfl)]
      intro x hb hd K hk
      clear hd
      go_wp2_with fail
      exact hk _ _ rfl trivial (Below.refl _ _)
    rintro _ rfl
    simp only [Act.put, List.setIfInBounds_toArray, List.set_cons_succ, List.set_cons_zero]
    refine ⟨?_, ?_⟩
    focus
      unfold opGoal
      rw [if_pos (by kernel_rfl)]
      intro x hb hd K hk
      clear hd
      have hsz := hb.size
      have HC := Lib.hid (KC.out x (HV.out.below hb))
      go_wp2_with fail
      refine HC.out.mono ?_
      rintro e x' ⟨A1, c1, vs, rfl, ho, ha, hb'⟩
      rw [List.length_map, ← HKL.out] at ho ⊢
      obtain ⟨A', c', he, hnc, -⟩ := own_form ho
      injection he with he1 _ he3
      subst he1 he3
      exact hk _ _ ⟨_, _, rfl⟩ ⟨A1, c1, vs, rfl, hnc, own_mono ho hsz, ha.mono hsz⟩ hb'
    rintro _ ⟨A1, c1, rfl⟩
    simp only [Act.put, List.setIfInBounds_toArray, List.set_cons_succ, List.set_cons_zero]
    refine ⟨?_, ?_⟩
    focus
      unfold opGoal
      rw [if_pos (by kernel_rfl)]
      intro x hb hd K hk
      clear hd
      go_wp2_with fail
      refine hk _ _ ⟨_, rfl⟩ ?_ ((Below.refl _ _).alloc (Nat.le_refl _) _)
      intro g' hg
      injection hg with hg
      injection hg with hg
      injection hg with hg
      subst hg
      exact ⟨Blk.new x _ _, hb.size⟩
    rintro _ ⟨gx, rfl⟩
    simp only [Act.put, List.setIfInBounds_toArray, List.set_cons_succ, List.set_cons_zero]
    intro y hby hf
    simp only [List.drop_succ_cons, List.drop_zero]
    have hk4 := hf 4 (kidsG w.heap.size kl (ks.map flat)) (.slice A1 kl c1) (by kernel_rfl) (by kernel_rfl)
    obtain ⟨hg5, hgw⟩ := (hf 5 (newG 98 #[.int .i64 0, .int .i64 0, .int .i64 0, .int .i64 0, .string ⟨#[]⟩] w.heap.size) (.pointer (some ⟨gx, 0, none⟩)) (by kernel_rfl) (by kernel_rfl)) gx rfl
    obtain ⟨_, _, vs4, he4, hcl, ho4, ha4⟩ := hk4
    injection he4 with he4 _ he5
    subst he4 he5
    have z0 := hg5.cell 0
    have z1 := hg5.cell 1
    have z2 := hg5.cell 2
    have z3 := hg5.cell 3
    have z4 := hg5.cell 4
    have y0 := hg5.frozen 0
    have y1 := hg5.frozen 1
    have y2 := hg5.frozen 2
    have y3 := hg5.frozen 3
    have y4 := hg5.frozen 4
    simp only [List.getElem?_toArray, List.getElem?_cons_zero, List.getElem?_cons_succ] at z0 z1 z2 z3 z4
    clear hf KC d0 d1 d2 d3 d4 hbl hm1
    have HQ5 := Lib.hid hg5
    have HO4 := Lib.hid ho4
    have HA4 := Lib.hid ha4
    have HBY := Lib.hid hby
    clear hg5 ho4 ha4 hby
    go_upto_region 1 with (fail)
    obtain ⟨W', hW1⟩ : ∃ W', W' = (((((y.setCell ⟨gx, 0, none⟩ (.int .i64 kd)).setCell ⟨gx, 1, none⟩ (.int .i64 n)).setCell ⟨gx, 2, none⟩ (.int .i64 Zk)).setCell ⟨gx, 3, none⟩ (.int .i64 Zz)).setCell ⟨gx, 4, none⟩ (.string ⟨s.toArray⟩)) := ⟨_, rfl⟩
    rw [← hW1]
    have hB1 : But gx y W' := by
      rw [hW1]
      exact ((((But.set y 0 _).trans (But.set _ 1 _)).trans (But.set _ 2 _)).trans (But.set _ 3 _)).trans (But.set _ 4 _)
    have HBX := Lib.hid (show Blk W' gx 98 #[.int .i64 kd, .int .i64 n, .int .i64 Zk, .int .i64 Zz, .string ⟨s.toArray⟩] from by
      rw [hW1]
      simpa using ((((HQ5.out.set 0 (.int .i64 kd)).set 1 (.int .i64 n)).set 2 (.int .i64 Zk)).set 3 (.int .i64 Zz)).set 4 (.string ⟨s.toArray⟩))
    have HBW1 := Lib.hid (show Below w.heap.size w W' from HBY.out.trans (hB1.below hgw HBY.out.size))
    have HKS := Lib.hid (show KdS base W' A1 (ks.map flat) from KdS.of_own (own_but HO4.out hB1 HQ5.out (by decide)) (by rw [List.length_map]; exact HKL.out) (kids_ne HA4.out HQ5.out hB1 HKZ.out))
    have HS := Lib.hid (St.start (H := Hh) (HWR.out.below HBW1.out) HKS.out (Nat.le_trans HBW.out HBW1.out.size) ⟨HXX.out.2.2, HH9.out⟩)
    have HF := Lib.hid (FrW.refl base W')
    clear hW1 hB1 z0 z1 z2 z3 z4 y0 y1 y2 y3 y4 HO4 HA4 HQ5
    have hxx := HXX.out
    have hh9 := HH9.out
    have hHh : 1 ≤ Hh := by rw [HHQ.out]; exact HH1.out
    have HHK := Lib.hid (show ∀ h : 0 < ks.length, heightT ks[0] ≤ Hh from fun h => by
      have := kid_h kd n s ks 0 h
      rw [HHQ.out]
      omega)
    obtain ⟨t0, rfl⟩ : ∃ t, ks = [t] := by
      match ks, HK1.out with
      | [t], _ => exact ⟨t, rfl⟩
    have hT0 : WordOk t0 := HW0.out _ (List.mem_singleton.2 rfl)
    have hH0 : heightT t0 ≤ Hh := HHK.out (by simp)
    obtain ⟨kb, ko, _, rfl, -⟩ := HKS.out.at_ (k := 0) (by simp)
    have hp0 := flat_pos t0
    obtain ⟨fl, hfl⟩ : ∃ fl, fl = (flatAll [t0]).length := ⟨_, rfl⟩
    rw [← hfl] at hxx ⊢
    have hfl0 : fl = (flat t0).length := by rw [hfl, flatAll_cons, flatAll_nil, List.append_nil]
    have hkl1 : kl = 1 := HKL.out
    have HFL := Lib.hid hfl
    clear hfl HHK
    subst hkl1
    have q0 := HBX.out.cell 0
    have q1 := HBX.out.cell 1
    simp only [List.getElem?_toArray, List.getElem?_cons_zero, List.getElem?_cons_succ] at q0 q1
    have b1 : (kd == 1) = false := by simp; omega
    have b2 : (kd == 2) = false := by simp; omega
    have b3 : (kd == 3) = false := by simp; omega
    have b4 : (kd == 4) = false := by simp; omega
    have b5 : (kd == 12) = false := by simp; omega
    obtain ⟨Av, nv, cv, hkc, hcc⟩ := (HS.out.word_ (k := 0) hT0 (by simp) rfl (by omega) (by omega) (by omega))
    have HCC := Lib.hid hcc
    clear hcc
    first | (simp only [Nat.add_zero] at hkc) | skip
    go_wp2_with fail
    refine HCC.out.mono ?_
    rintro e W' ⟨rfl, hs', hf'⟩
    replace HS := Lib.hid hs'
    replace HF := Lib.hid (HF.out.trans hf')
    clear hs' hf' HCC hkc
    clear q0 q1
    have q0 := (HBX.out.others HF.out.others (by decide)).cell 0
    have q1 := (HBX.out.others HF.out.others (by decide)).cell 1
    simp only [List.getElem?_toArray, List.getElem?_cons_zero, List.getElem?_cons_succ] at q0 q1
    have l0 := Later.cell q0
    have l1 := Later.cell q1
    have HGO := Lib.hid (gops_any kd h5 h11)
    have HOPC := Lib.hid (fun (W2 : World) hW => St.op_ (HS.out.below (W' := W2) hW) kd n 0 [] (fun m _ => by
      have h : kd = 5 ∨ kd = 6 ∨ kd = 7 ∨ kd = 8 ∨ kd = 9 ∨ kd = 10 ∨ kd = 11 := by omega
      rcases h with rfl | rfl | rfl | rfl | rfl | rfl | rfl <;> simp [okI, placeA, placeB, countA]) (by omega))
    go_upto_region 3 with (fail)
    clear q0 q1 b1 b2 b3 b4 b5
    refine wp_region_mid 8 _ rfl rfl (by kernel_rfl) (by kernel_rfl) (by kernel_rfl) ?_
    apply EqGo.run
    focus
      kernel_rfl
    focus
      intro x K hK
      go_wp2_with fail
      first | exact hK x (Below.refl _ _) | exact Below.refl _ _
    simp only [Act.put, List.setIfInBounds_toArray, List.set_cons_succ, List.set_cons_zero]
    apply EqGo.run
    focus
      kernel_rfl
    focus
      intro x K hK
      go_wp2_with fail
      first | exact hK x (Below.refl _ _) | exact Below.refl _ _
    simp only [Act.put, List.setIfInBounds_toArray, List.set_cons_succ, List.set_cons_zero]
    apply EqGo.run
    focus
      kernel_rfl
    focus
      intro x K hK
      go_wp2_with fail
      first | exact hK x (Below.refl _ _) | exact Below.refl _ _
    simp only [Act.put, List.setIfInBounds_toArray, List.set_cons_succ, List.set_cons_zero]
    apply EqGo.run
    focus
      kernel_rfl
    focus
      intro x K hK
      go_wp2_with fail
      first | exact hK x (Below.refl _ _) | exact Below.refl _ _
    simp only [Act.put, List.setIfInBounds_toArray, List.set_cons_succ, List.set_cons_zero]
    apply EqGo.run
    focus
      kernel_rfl
    focus
      intro x K hK
      go_wp2_with fail
      first | exact hK x (Below.refl _ _) | exact Below.refl _ _
    simp only [Act.put, List.setIfInBounds_toArray, List.set_cons_succ, List.set_cons_zero]
    apply EqGo.run
    focus
      kernel_rfl
    focus
      intro x K hK
      go_wp2_with fail
      refine (Hid.out HGO x.val).mono ?_
      rintro e x' ⟨rfl, hb'⟩
      exact hK ⟨x', x.below.trans (hb'.mono x.below.size)⟩ hb'
    simp only [Act.put, List.setIfInBounds_toArray, List.set_cons_succ, List.set_cons_zero]
    apply EqGo.run
    focus
      kernel_rfl
    focus
      intro x K hK
      go_wp2_with fail
      first | exact hK x (Below.refl _ _) | exact Below.refl _ _
    simp only [Act.put, List.setIfInBounds_toArray, List.set_cons_succ, List.set_cons_zero]
    apply EqGo.run
    focus
      kernel_rfl
    focus
      intro x K hK
      go_wp2_with fail
      first | exact hK x (Below.refl _ _) | exact Below.refl _ _
    simp only [Act.put, List.setIfInBounds_toArray, List.set_cons_succ, List.set_cons_zero]
    intro z K hK
    have HCC := Lib.hid (HOPC.out z.val z.below)
    clear HOPC l0 l1 HGO
    go_wp2_with fail
    refine HCC.out.mono ?_
    rintro e W' ⟨P1, rfl, hX1, hL1, hP1, hs', hf'⟩
    replace HS := Lib.hid hs'
    clear hs' hf' HCC HF
    refine hK _ _ ?_
    clear hK K
    intro z2
    replace HS := Lib.hid (HS.out.below z2.below)
    generalize z2.val = W' at *
    clear z2
    have HFIN := Lib.hid ((HS.out.done (sz := 8 * (1 + fl) - 3) (by omega)).of HBW1.out HBW.out)
    rw [HFL.out] at HFIN
    go_wp2_with fail
    go_returns
    exact HFIN.out
set_option maxRecDepth 100000 in
set_option maxHeartbeats 8000000 in
theorem wd12 (kd : Int) (hkd : kd = 12) (n : Int) (s : List UInt8) (ks : List Tr) (hkz : ∀ t ∈ ks, t.kind ≠ 0) (hs : s.length ≤ 2000) (h1 : 1 ≤ heightT (.mk kd n s ks)) (hk1 : ks.length = 1) (hw0 : ∀ t ∈ ks, DoOk t) : WordOk (.mk kd n s ks) := by
  have HKZ := Lib.hid hkz
  have HSL := Lib.hid hs
  have HH1 := Lib.hid h1
  have HK1 := Lib.hid hk1
  have HW0 := Lib.hid hw0
  clear hkz hs h1 hk1 hw0
  have HKD := Lib.hid hkd
  clear hkd
  intro base g X now high v w h hv hbw hX hnow hhi
  rw [flat_size] at hX hnow ⊢
  have KC := Lib.hid (show ∀ W, SlRd W v (flat (.mk kd n s ks)) → Calls Tryd.prog 64 #[v] W (KidsRet (ks.map flat) W) from fun W h => by
    rw [← kidsL_flat kd n s ks]
    exact kids_any v _ W h (by rw [flat_size]; omega))
  have hH9 : now + heightT (.mk kd n s ks) ≤ 30000000 := by have := heightT_len (.mk kd n s ks); rw [flat_size] at this; omega
  have HV := Lib.hid hv.rd
  have HWR := Lib.hid h
  obtain ⟨A0, cp0, hve, hrd, hc0, hm0, -⟩ := hv.rd
  have h0 : 0 < (flat (.mk kd n s ks)).length := flat_pos _
  obtain ⟨b, o, rfl, hbl⟩ := hrd.addr h0
  have hx := hrd.at_ h0
  rw [show (flat (.mk kd n s ks))[0] = ⟨kd, n, ks.length, ((1 + (flatAll ks).length : Nat) : Int), s⟩ by simp [flat_mk]] at hx
  have d0 := hx.2 0 _ rfl
  have d1 := hx.2 1 _ rfl
  have d2 := hx.2 2 _ rfl
  have d3 := hx.2 3 _ rfl
  have d4 := hx.2 4 _ rfl
  simp only [Nat.zero_mul, Nat.add_zero] at d0 d1 d2 d3 d4
  subst hve
  obtain ⟨m, hml⟩ : ∃ m, m = (flat (.mk kd n s ks)).length := ⟨_, rfl⟩
  have hm1 : 0 < m := by omega
  rw [← hml] at KC HV ⊢
  have hkn := len_flatAll ks
  have HKN := Lib.hid hkn
  have HH9 := Lib.hid hH9
  have HXX := Lib.hid (And.intro hX (And.intro hnow hhi))
  have HBW := Lib.hid hbw
  obtain ⟨Hh, hHh⟩ : ∃ Hh, Hh = heightT (.mk kd n s ks) := ⟨_, rfl⟩
  rw [← hHh]
  rw [← hHh] at HH9
  have HHQ := Lib.hid hHh
  obtain ⟨Zk, hZk⟩ : ∃ Zk : Int, Zk = ks.length := ⟨_, rfl⟩
  obtain ⟨Zz, hZz⟩ : ∃ Zz : Int, Zz = ((1 + (flatAll ks).length : Nat) : Int) := ⟨_, rfl⟩
  rw [← hZk] at d2
  rw [← hZz] at d3
  have HZK := Lib.hid hZk
  obtain ⟨kl, hkl⟩ : ∃ kl, kl = ks.length := ⟨_, rfl⟩
  have HKL := Lib.hid hkl
  have HZZ := Lib.hid hZz
  clear hx hrd hc0 hm0 hkn hml h0 hv h hH9 hX hnow hhi hbw hHh hZk hZz hkl
  go_enter Tryd.func93, Tryd.ntmps93
  go_upto_region 0 with (fail)
  apply wp_region_relA 6 [eqT _, eqT _, eqT (.agg #[.int .i64 kd, .int .i64 n, .int .i64 Zk, .int .i64 Zz, .string ⟨s.toArray⟩]), eqT _, kidsG w.heap.size kl (ks.map flat), newG 98 #[.int .i64 0, .int .i64 0, .int .i64 0, .int .i64 0, .string ⟨#[]⟩] w.heap.size] (by kernel_rfl) (by kernel_rfl) (by kernel_rfl) rfl
  focus
    refine ⟨?_, ?_⟩
    focus
      unfold opGoal
      rw [if_pos (by kernel_rfl)]
      intro x hb hd K hk
      clear hd
      go_wp2_with fail
      exact hk _ _ rfl trivial (Below.refl _ _)
    rintro _ rfl
    simp only [Act.put, List.setIfInBounds_toArray, List.set_cons_succ, List.set_cons_zero]
    refine ⟨?_, ?_⟩
    focus
      unfold opGoal
      rw [if_pos (by kernel_rfl)]
      intro x hb hd K hk
      clear hd
      go_wp2_with fail
      exact hk _ _ rfl trivial (Below.refl _ _)
    rintro _ rfl
    simp only [Act.put, List.setIfInBounds_toArray, List.set_cons_succ, List.set_cons_zero]
    refine ⟨?_, ?_⟩
    focus
      unfold opGoal
      rw [if_pos (by kernel_rfl)]
      intro x hb hd K hk
      clear hd
      have l0 := cell_keep hb d0
      have l1 := cell_keep hb d1
      have l2 := cell_keep hb d2
      have l3 := cell_keep hb d3
      have l4 := cell_keep hb d4
      go_wp2_with fail
      exact hk _ _ rfl trivial (Below.refl _ _)
    rintro _ rfl
    simp only [Act.put, List.setIfInBounds_toArray, List.set_cons_succ, List.set_cons_zero]
    refine ⟨?_, ?_⟩
    focus
      unfold opGoal
      rw [if_pos (by kernel_rfl)]
      intro x hb hd K hk
      clear hd
      go_wp2_with fail
      exact hk _ _ rfl trivial (Below.refl _ _)
    rintro _ rfl
    simp only [Act.put, List.setIfInBounds_toArray, List.set_cons_succ, List.set_cons_zero]
    refine ⟨?_, ?_⟩
    focus
      unfold opGoal
      rw [if_pos (by kernel_rfl)]
      intro x hb hd K hk
      clear hd
      have hsz := hb.size
      have HC := Lib.hid (KC.out x (HV.out.below hb))
      go_wp2_with fail
      refine HC.out.mono ?_
      rintro e x' ⟨A1, c1, vs, rfl, ho, ha, hb'⟩
      rw [List.length_map, ← HKL.out] at ho ⊢
      obtain ⟨A', c', he, hnc, -⟩ := own_form ho
      injection he with he1 _ he3
      subst he1 he3
      exact hk _ _ ⟨_, _, rfl⟩ ⟨A1, c1, vs, rfl, hnc, own_mono ho hsz, ha.mono hsz⟩ hb'
    rintro _ ⟨A1, c1, rfl⟩
    simp only [Act.put, List.setIfInBounds_toArray, List.set_cons_succ, List.set_cons_zero]
    refine ⟨?_, ?_⟩
    focus
      unfold opGoal
      rw [if_pos (by kernel_rfl)]
      intro x hb hd K hk
      clear hd
      go_wp2_with fail
      refine hk _ _ ⟨_, rfl⟩ ?_ ((Below.refl _ _).alloc (Nat.le_refl _) _)
      intro g' hg
      injection hg with hg
      injection hg with hg
      injection hg with hg
      subst hg
      exact ⟨Blk.new x _ _, hb.size⟩
    rintro _ ⟨gx, rfl⟩
    simp only [Act.put, List.setIfInBounds_toArray, List.set_cons_succ, List.set_cons_zero]
    intro y hby hf
    simp only [List.drop_succ_cons, List.drop_zero]
    have hk4 := hf 4 (kidsG w.heap.size kl (ks.map flat)) (.slice A1 kl c1) (by kernel_rfl) (by kernel_rfl)
    obtain ⟨hg5, hgw⟩ := (hf 5 (newG 98 #[.int .i64 0, .int .i64 0, .int .i64 0, .int .i64 0, .string ⟨#[]⟩] w.heap.size) (.pointer (some ⟨gx, 0, none⟩)) (by kernel_rfl) (by kernel_rfl)) gx rfl
    obtain ⟨_, _, vs4, he4, hcl, ho4, ha4⟩ := hk4
    injection he4 with he4 _ he5
    subst he4 he5
    have z0 := hg5.cell 0
    have z1 := hg5.cell 1
    have z2 := hg5.cell 2
    have z3 := hg5.cell 3
    have z4 := hg5.cell 4
    have y0 := hg5.frozen 0
    have y1 := hg5.frozen 1
    have y2 := hg5.frozen 2
    have y3 := hg5.frozen 3
    have y4 := hg5.frozen 4
    simp only [List.getElem?_toArray, List.getElem?_cons_zero, List.getElem?_cons_succ] at z0 z1 z2 z3 z4
    clear hf KC d0 d1 d2 d3 d4 hbl hm1
    have HQ5 := Lib.hid hg5
    have HO4 := Lib.hid ho4
    have HA4 := Lib.hid ha4
    have HBY := Lib.hid hby
    clear hg5 ho4 ha4 hby
    go_upto_region 1 with (fail)
    obtain ⟨W', hW1⟩ : ∃ W', W' = (((((y.setCell ⟨gx, 0, none⟩ (.int .i64 kd)).setCell ⟨gx, 1, none⟩ (.int .i64 n)).setCell ⟨gx, 2, none⟩ (.int .i64 Zk)).setCell ⟨gx, 3, none⟩ (.int .i64 Zz)).setCell ⟨gx, 4, none⟩ (.string ⟨s.toArray⟩)) := ⟨_, rfl⟩
    rw [← hW1]
    have hB1 : But gx y W' := by
      rw [hW1]
      exact ((((But.set y 0 _).trans (But.set _ 1 _)).trans (But.set _ 2 _)).trans (But.set _ 3 _)).trans (But.set _ 4 _)
    have HBX := Lib.hid (show Blk W' gx 98 #[.int .i64 kd, .int .i64 n, .int .i64 Zk, .int .i64 Zz, .string ⟨s.toArray⟩] from by
      rw [hW1]
      simpa using ((((HQ5.out.set 0 (.int .i64 kd)).set 1 (.int .i64 n)).set 2 (.int .i64 Zk)).set 3 (.int .i64 Zz)).set 4 (.string ⟨s.toArray⟩))
    have HBW1 := Lib.hid (show Below w.heap.size w W' from HBY.out.trans (hB1.below hgw HBY.out.size))
    have HKS := Lib.hid (show KdS base W' A1 (ks.map flat) from KdS.of_own (own_but HO4.out hB1 HQ5.out (by decide)) (by rw [List.length_map]; exact HKL.out) (kids_ne HA4.out HQ5.out hB1 HKZ.out))
    have HS := Lib.hid (St.start (H := Hh) (HWR.out.below HBW1.out) HKS.out (Nat.le_trans HBW.out HBW1.out.size) ⟨HXX.out.2.2, HH9.out⟩)
    have HF := Lib.hid (FrW.refl base W')
    clear hW1 hB1 z0 z1 z2 z3 z4 y0 y1 y2 y3 y4 HO4 HA4 HQ5
    have hxx := HXX.out
    have hh9 := HH9.out
    have hHh : 1 ≤ Hh := by rw [HHQ.out]; exact HH1.out
    have hkd := HKD.out
    subst hkd
    have HHK := Lib.hid (show ∀ h : 0 < ks.length, heightT ks[0] ≤ Hh from fun h => by
      have := kid_h 12 n s ks 0 h
      rw [HHQ.out]
      omega)
    obtain ⟨t0, rfl⟩ : ∃ t, ks = [t] := by
      match ks, HK1.out with
      | [t], _ => exact ⟨t, rfl⟩
    have hT0 : DoOk t0 := HW0.out _ (List.mem_singleton.2 rfl)
    have hH0 : heightT t0 ≤ Hh := HHK.out (by simp)
    obtain ⟨kb, ko, _, rfl, -⟩ := HKS.out.at_ (k := 0) (by simp)
    have hp0 := flat_pos t0
    obtain ⟨fl, hfl⟩ : ∃ fl, fl = (flatAll [t0]).length := ⟨_, rfl⟩
    rw [← hfl] at hxx ⊢
    have hfl0 : fl = (flat t0).length := by rw [hfl, flatAll_cons, flatAll_nil, List.append_nil]
    have hkl1 : kl = 1 := HKL.out
    have HFL := Lib.hid hfl
    clear hfl HHK
    subst hkl1
    have q0 := HBX.out.cell 0
    have q1 := HBX.out.cell 1
    simp only [List.getElem?_toArray, List.getElem?_cons_zero, List.getElem?_cons_succ] at q0 q1
    have HCC := Lib.hid (HS.out.op_ 14 0 0 [] (fun m _ => by simp [okI, placeA, placeB, countA]) (by omega))
    go_wp2_with fail
    refine HCC.out.mono ?_
    rintro e W' ⟨P1, rfl, hX1, hL1, hP1, hs', hf'⟩
    replace HS := Lib.hid hs'
    replace HF := Lib.hid (HF.out.trans hf')
    clear hs' hf' HCC
    have HCC := Lib.hid (HS.out.op_ 12 0 0 [] (fun m _ => by simp [okI, placeA, placeB, countA]) (by omega))
    go_wp2_with fail
    refine HCC.out.mono ?_
    rintro e W' ⟨P2, rfl, hX2, hL2, hP2, hs', hf'⟩
    replace HS := Lib.hid hs'
    replace HF := Lib.hid (HF.out.trans hf')
    clear hs' hf' HCC
    obtain ⟨Av, nv, cv, hkc, hcc⟩ := (HS.out.do_ (k := 0) hT0 (by simp) rfl (by omega) (by omega) (by omega))
    have HCC := Lib.hid hcc
    clear hcc
    first | (simp only [Nat.add_zero] at hkc) | skip
    go_wp2_with fail
    refine HCC.out.mono ?_
    rintro e W' ⟨rfl, hs', hf'⟩
    replace HS := Lib.hid hs'
    replace HF := Lib.hid (HF.out.trans hf')
    clear hs' hf' HCC hkc
    have HCC := Lib.hid (HS.out.op_ 13 0 0 [] (fun m _ => by simp [okI, placeA, placeB, countA]) (by omega))
    go_wp2_with fail
    refine HCC.out.mono ?_
    rintro e W' ⟨P3, rfl, hX3, hL3, hP3, hs', hf'⟩
    replace HS := Lib.hid hs'
    replace HF := Lib.hid (HF.out.trans hf')
    clear hs' hf' HCC
    have HCC := Lib.hid (HS.out.push_ (now + 1) 1 (by omega) (by omega) (by omega))
    go_wp2_with fail
    refine HCC.out.mono ?_
    rintro e W' ⟨rfl, hs', hf'⟩
    replace HS := Lib.hid hs'
    replace HF := Lib.hid (HF.out.trans hf')
    clear hs' hf' HCC
    clear q0 q1
    have HFIN := Lib.hid ((HS.out.done (sz := 8 * (1 + fl) - 3) (by omega)).of HBW1.out HBW.out)
    rw [HFL.out] at HFIN
    go_wp2_with fail
    go_returns
    exact HFIN.out
end Go.Proofs.YtpogngdddendiaaDoor
