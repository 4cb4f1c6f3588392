/- The walks over ticked, kind by kind; printed by gen/tk.py. Bounds on the lengths. -/
import Derived.Test.YtpogngdddendiaaDoorGJ
set_option linter.unusedVariables false
set_option linter.unusedSimpArgs false
namespace Go.Proofs.YtpogngdddendiaaDoor
open Go.RowKit
set_option maxRecDepth 100000 in
set_option maxHeartbeats 8000000 in
theorem tk36 (t0 : Tr) (HT0 : WordOk t0) (n kk z : Int) (s : List UInt8) (hs : s.length ≤ 2000) (base g : Nat) (X : List Ins) (now high H : Nat) (A : Option Addr) (c m : Nat) (w : World) (h : TkIn base g X now high H (flat t0).length A [flat t0] w) (hm : m = 1) (hH0 : heightT t0 ≤ H) :
    Calls Tryd.prog 68 #[.pointer (some ⟨g, 0, none⟩), .agg #[.int .i64 36, .int .i64 n, .int .i64 kk, .int .i64 z, .string ⟨s.toArray⟩], .slice A m c] w (TkRet base g X now high H (flat t0).length w) := by
  subst hm
  have p0 := flat_pos t0
  obtain ⟨kb, ko, _, rfl, -⟩ := h.kd.at_ (k := 0) (by simp)
  have hx := h.x
  have hnow := h.nb
  have h9 := h.h9
  have HSL := Lib.hid hs
  have HIN := Lib.hid h
  have HBX := Lib.hid (Blk.new w 98 #[.int .i64 36, .int .i64 n, .int .i64 kk, .int .i64 z, .string ⟨s.toArray⟩])
  have hbb : Below w.heap.size w (w.alloc (.cells #[.int .i64 36, .int .i64 n, .int .i64 kk, .int .i64 z, .string ⟨s.toArray⟩] 98)) := (Below.refl _ w).alloc (Nat.le_refl _) _
  have HS := Lib.hid (h.st hbb)
  have HBB := Lib.hid hbb
  generalize hw1 : w.alloc (.cells #[.int .i64 36, .int .i64 n, .int .i64 kk, .int .i64 z, .string ⟨s.toArray⟩] 98) = w1 at *
  have HW1 := Lib.hid hw1
  obtain ⟨gx, hgx⟩ : ∃ gx, gx = w.heap.size := ⟨_, rfl⟩
  rw [← hgx] at HBX
  have HGX := Lib.hid hgx
  have HF := Lib.hid (FrW.refl base w1)
  have q0 := HBX.out.cell 0
  have q1 := HBX.out.cell 1
  have q4 := HBX.out.cell 4
  simp only [List.getElem?_toArray, List.getElem?_cons_zero, List.getElem?_cons_succ] at q0 q1 q4
  clear h hs hw1 hgx hbb
  go_enter Tryd.func68, Tryd.ntmps68
  go_upto_region 1 with (fail)
  rw [HW1.out, ← HGX.out]
  clear HW1 HGX
  obtain ⟨Av, nv, cv, hkc, hcc⟩ := (HS.out.word_ (k := 0) HT0 (by simp) rfl (by omega) (by omega) (by omega))
  have HCC := Lib.hid hcc
  clear hcc
  first | (simp only [Nat.add_zero] at hkc) | skip
  go_wp2_with fail
  refine HCC.out.mono ?_
  rintro e W' ⟨rfl, hs', hf'⟩
  replace HS := Lib.hid hs'
  replace HF := Lib.hid (HF.out.trans hf')
  clear hs' hf' HCC hkc
  clear q0 q1 q4
  have HCC := Lib.hid (HS.out.op_ 37 0 0 [] (fun m _ => by simp [okI, placeA, placeB, countA]) (by omega))
  go_wp2_with fail
  refine HCC.out.mono ?_
  rintro e W' ⟨P1, rfl, hX1, hL1, hP1, hs', hf'⟩
  replace HS := Lib.hid hs'
  replace HF := Lib.hid (HF.out.trans hf')
  clear hs' hf' HCC
  have HCC := Lib.hid (HS.out.push_ now (-1) (by omega) (by omega) (by omega))
  go_wp2_with fail
  refine HCC.out.mono ?_
  rintro e W' ⟨rfl, hs', hf'⟩
  replace HS := Lib.hid hs'
  replace HF := Lib.hid (HF.out.trans hf')
  clear hs' hf' HCC
  have HFIN := Lib.hid (HS.out.done (sz := 8 * (flat t0).length + 4) (by omega))
  go_wp2_with fail
  go_returns
  exact HFIN.out
set_option maxRecDepth 100000 in
set_option maxHeartbeats 8000000 in
theorem tk31 (t0 : Tr) (HT0 : DoOk t0) (n kk z : Int) (s : List UInt8) (hs : s.length ≤ 2000) (base g : Nat) (X : List Ins) (now high H : Nat) (A : Option Addr) (c m : Nat) (w : World) (h : TkIn base g X now high H (flat t0).length A [flat t0] w) (hm : m = 1) (hH0 : heightT t0 ≤ H) :
    Calls Tryd.prog 68 #[.pointer (some ⟨g, 0, none⟩), .agg #[.int .i64 31, .int .i64 n, .int .i64 kk, .int .i64 z, .string ⟨s.toArray⟩], .slice A m c] w (TkRet base g X now high H (flat t0).length w) := by
  subst hm
  have p0 := flat_pos t0
  obtain ⟨kb, ko, _, rfl, -⟩ := h.kd.at_ (k := 0) (by simp)
  have hx := h.x
  have hnow := h.nb
  have h9 := h.h9
  have HSL := Lib.hid hs
  have HIN := Lib.hid h
  have HBX := Lib.hid (Blk.new w 98 #[.int .i64 31, .int .i64 n, .int .i64 kk, .int .i64 z, .string ⟨s.toArray⟩])
  have hbb : Below w.heap.size w (w.alloc (.cells #[.int .i64 31, .int .i64 n, .int .i64 kk, .int .i64 z, .string ⟨s.toArray⟩] 98)) := (Below.refl _ w).alloc (Nat.le_refl _) _
  have HS := Lib.hid (h.st hbb)
  have HBB := Lib.hid hbb
  generalize hw1 : w.alloc (.cells #[.int .i64 31, .int .i64 n, .int .i64 kk, .int .i64 z, .string ⟨s.toArray⟩] 98) = w1 at *
  have HW1 := Lib.hid hw1
  obtain ⟨gx, hgx⟩ : ∃ gx, gx = w.heap.size := ⟨_, rfl⟩
  rw [← hgx] at HBX
  have HGX := Lib.hid hgx
  have HF := Lib.hid (FrW.refl base w1)
  have q0 := HBX.out.cell 0
  have q1 := HBX.out.cell 1
  have q4 := HBX.out.cell 4
  simp only [List.getElem?_toArray, List.getElem?_cons_zero, List.getElem?_cons_succ] at q0 q1 q4
  clear h hs hw1 hgx hbb
  go_enter Tryd.func68, Tryd.ntmps68
  go_upto_region 1 with (fail)
  rw [HW1.out, ← HGX.out]
  clear HW1 HGX
  go_upto_region 12 with (fail)
  clear q0 q1 q4
  have q4 := (HBX.out.others HF.out.others (by decide)).cell 4
  simp only [List.getElem?_toArray, List.getElem?_cons_zero, List.getElem?_cons_succ] at q4
  have l4 := Later.cell q4
  have HOPC := Lib.hid (fun (W2 : World) hW => St.op_ (HS.out.below (W' := W2) hW) 26 0 0 s (fun m _ => by simp [okI, placeA, placeB, countA, HSL.out]; omega) (by omega))
  go_upto_region 12 with (fail)
  clear q4
  refine wp_region_mid 5 _ rfl rfl (by kernel_rfl) (by kernel_rfl) (by kernel_rfl) ?_
  apply EqGo.run
  focus
    kernel_rfl
  focus
    intro x K hK
    go_wp2_with fail
    first | exact hK x (Below.refl _ _) | exact Below.refl _ _
  simp only [Act.put, List.setIfInBounds_toArray, List.set_cons_succ, List.set_cons_zero]
  apply EqGo.run
  focus
    kernel_rfl
  focus
    intro x K hK
    go_wp2_with fail
    first | exact hK x (Below.refl _ _) | exact Below.refl _ _
  simp only [Act.put, List.setIfInBounds_toArray, List.set_cons_succ, List.set_cons_zero]
  apply EqGo.run
  focus
    kernel_rfl
  focus
    intro x K hK
    go_wp2_with fail
    first | exact hK x (Below.refl _ _) | exact Below.refl _ _
  simp only [Act.put, List.setIfInBounds_toArray, List.set_cons_succ, List.set_cons_zero]
  apply EqGo.run
  focus
    kernel_rfl
  focus
    intro x K hK
    go_wp2_with fail
    first | exact hK x (Below.refl _ _) | exact Below.refl _ _
  simp only [Act.put, List.setIfInBounds_toArray, List.set_cons_succ, List.set_cons_zero]
  apply EqGo.run
  focus
    kernel_rfl
  focus
    intro x K hK
    go_wp2_with fail
    first | exact hK x (Below.refl _ _) | exact Below.refl _ _
  simp only [Act.put, List.setIfInBounds_toArray, List.set_cons_succ, List.set_cons_zero]
  intro z K hK
  have HCC := Lib.hid (HOPC.out z.val z.below)
  have HFz := Lib.hid (FrW.of z.below HS.out.bw)
  clear HOPC l4
  go_wp2_with fail
  refine HCC.out.mono ?_
  rintro e W' ⟨P1, rfl, hX1, hL1, hP1, hs', hf'⟩
  replace HS := Lib.hid hs'
  replace HF := Lib.hid ((HF.out.trans HFz.out).trans hf')
  clear hs' hf' HCC HFz
  refine hK _ _ ?_
  clear hK K
  simp only [Act.put, List.setIfInBounds_toArray, List.set_cons_succ, List.set_cons_zero]
  apply EqGo.run
  focus
    kernel_rfl
  focus
    intro x K hK
    go_wp2_with fail
    first | exact hK x (Below.refl _ _) | exact Below.refl _ _
  simp only [Act.put, List.setIfInBounds_toArray, List.set_cons_succ, List.set_cons_zero]
  intro z2
  replace HF := Lib.hid (HF.out.trans (FrW.of z2.below HS.out.bw))
  replace HS := Lib.hid (HS.out.below z2.below)
  generalize z2.val = W' at *
  clear z2
  obtain ⟨ga, gc, gn, gP, gn8, l0, hhere, hst⟩ := HS.out.fill (P := P1) (by omega) (by omega) (by omega)
  have HHE := Lib.hid hhere
  have HST := Lib.hid hst
  clear hhere hst
  go_upto_region 13 with (fail)
  refine wp_region_mid 12 _ rfl rfl (by kernel_rfl) (by kernel_rfl) (by kernel_rfl) ?_
  apply EqGo.run
  focus
    kernel_rfl
  focus
    intro x K hK
    go_wp2_with fail
    first | exact hK x (Below.refl _ _) | exact Below.refl _ _
  simp only [Act.put, List.setIfInBounds_toArray, List.set_cons_succ, List.set_cons_zero]
  apply EqGo.run
  focus
    kernel_rfl
  focus
    intro x K hK
    go_wp2_with fail
    first | exact hK x (Below.refl _ _) | exact Below.refl _ _
  simp only [Act.put, List.setIfInBounds_toArray, List.set_cons_succ, List.set_cons_zero]
  apply EqGo.run
  focus
    kernel_rfl
  focus
    intro x K hK
    go_wp2_with fail
    first | exact hK x (Below.refl _ _) | exact Below.refl _ _
  simp only [Act.put, List.setIfInBounds_toArray, List.set_cons_succ, List.set_cons_zero]
  apply EqGo.run
  focus
    kernel_rfl
  focus
    intro x K hK
    go_wp2_with fail
    first | exact hK x (Below.refl _ _) | exact Below.refl _ _
  simp only [Act.put, List.setIfInBounds_toArray, List.set_cons_succ, List.set_cons_zero]
  apply EqGo.run
  focus
    kernel_rfl
  focus
    intro x K hK
    go_wp2_with fail
    first | exact hK x (Below.refl _ _) | exact Below.refl _ _
  simp only [Act.put, List.setIfInBounds_toArray, List.set_cons_succ, List.set_cons_zero]
  apply EqGo.run
  focus
    kernel_rfl
  focus
    intro x K hK
    go_wp2_with fail
    first | exact hK x (Below.refl _ _) | exact Below.refl _ _
  simp only [Act.put, List.setIfInBounds_toArray, List.set_cons_succ, List.set_cons_zero]
  apply EqGo.run
  focus
    kernel_rfl
  focus
    intro x K hK
    go_wp2_with fail
    first | exact hK x (Below.refl _ _) | exact Below.refl _ _
  simp only [Act.put, List.setIfInBounds_toArray, List.set_cons_succ, List.set_cons_zero]
  apply EqGo.run
  focus
    kernel_rfl
  focus
    intro x K hK
    go_wp2_with fail
    first | exact hK x (Below.refl _ _) | exact Below.refl _ _
  simp only [Act.put, List.setIfInBounds_toArray, List.set_cons_succ, List.set_cons_zero]
  apply EqGo.run
  focus
    kernel_rfl
  focus
    intro x K hK
    go_wp2_with fail
    first | exact hK x (Below.refl _ _) | exact Below.refl _ _
  simp only [Act.put, List.setIfInBounds_toArray, List.set_cons_succ, List.set_cons_zero]
  apply EqGo.run
  focus
    kernel_rfl
  focus
    intro x K hK
    go_wp2_with fail
    refine (Hid.out HHE x.val x.below).mono ?_
    rintro e x' ⟨rfl, hb'⟩
    exact hK ⟨x', x.below.trans (hb'.mono x.below.size)⟩ hb'
  simp only [Act.put, List.setIfInBounds_toArray, List.set_cons_succ, List.set_cons_zero]
  apply EqGo.run
  focus
    kernel_rfl
  focus
    intro x K hK
    go_wp2_with fail
    first | exact hK x (Below.refl _ _) | exact Below.refl _ _
  simp only [Act.put, List.setIfInBounds_toArray, List.set_cons_succ, List.set_cons_zero]
  apply EqGo.run
  focus
    kernel_rfl
  focus
    intro x K hK
    go_wp2_with fail
    first | exact hK x (Below.refl _ _) | exact Below.refl _ _
  simp only [Act.put, List.setIfInBounds_toArray, List.set_cons_succ, List.set_cons_zero]
  intro z K hK
  obtain ⟨⟨u1, hu1⟩, fu1, ⟨u2, hu2⟩, fu2, hsA, hfA, hsB, hfB⟩ := HST.out z.val z.below
  replace HF := Lib.hid (HF.out.trans hfA)
  replace HS := Lib.hid hsA
  clear hsA hfA hsB hfB HST HHE l0
  go_wp2_with fail
  refine hK undef _ ?_
  clear hK K hu1 fu1 hu2 fu2 u1 u2
  intro z2
  replace HF := Lib.hid (HF.out.trans (FrW.of z2.below HS.out.bw))
  replace HS := Lib.hid (HS.out.below z2.below)
  generalize z2.val = W' at *
  clear z2 gP gn8
  obtain ⟨Av, nv, cv, hkc, hcc⟩ := (HS.out.do_ (k := 0) HT0 (by simp) rfl (by omega) (by omega) (by omega))
  have HCC := Lib.hid hcc
  clear hcc
  first | (simp only [Nat.add_zero] at hkc) | skip
  go_wp2_with fail
  refine HCC.out.mono ?_
  rintro e W' ⟨rfl, hs', hf'⟩
  replace HS := Lib.hid hs'
  replace HF := Lib.hid (HF.out.trans hf')
  clear hs' hf' HCC hkc
  have HCC := Lib.hid (HS.out.op_ 40 0 0 [] (fun m _ => by simp [okI, placeA, placeB, countA]) (by omega))
  go_wp2_with fail
  refine HCC.out.mono ?_
  rintro e W' ⟨P2, rfl, hX2, hL2, hP2, hs', hf'⟩
  replace HS := Lib.hid hs'
  replace HF := Lib.hid (HF.out.trans hf')
  clear hs' hf' HCC
  obtain ⟨ga, gc, gn, gP, gn8, l0, hhere, hst⟩ := HS.out.fill (P := P1) (by omega) (by omega) (by omega)
  have HHE := Lib.hid hhere
  have HST := Lib.hid hst
  clear hhere hst
  go_upto_region 16 with (fail)
  refine wp_region_mid 12 _ rfl rfl (by kernel_rfl) (by kernel_rfl) (by kernel_rfl) ?_
  apply EqGo.run
  focus
    kernel_rfl
  focus
    intro x K hK
    go_wp2_with fail
    first | exact hK x (Below.refl _ _) | exact Below.refl _ _
  simp only [Act.put, List.setIfInBounds_toArray, List.set_cons_succ, List.set_cons_zero]
  apply EqGo.run
  focus
    kernel_rfl
  focus
    intro x K hK
    go_wp2_with fail
    first | exact hK x (Below.refl _ _) | exact Below.refl _ _
  simp only [Act.put, List.setIfInBounds_toArray, List.set_cons_succ, List.set_cons_zero]
  apply EqGo.run
  focus
    kernel_rfl
  focus
    intro x K hK
    go_wp2_with fail
    first | exact hK x (Below.refl _ _) | exact Below.refl _ _
  simp only [Act.put, List.setIfInBounds_toArray, List.set_cons_succ, List.set_cons_zero]
  apply EqGo.run
  focus
    kernel_rfl
  focus
    intro x K hK
    go_wp2_with fail
    first | exact hK x (Below.refl _ _) | exact Below.refl _ _
  simp only [Act.put, List.setIfInBounds_toArray, List.set_cons_succ, List.set_cons_zero]
  apply EqGo.run
  focus
    kernel_rfl
  focus
    intro x K hK
    go_wp2_with fail
    first | exact hK x (Below.refl _ _) | exact Below.refl _ _
  simp only [Act.put, List.setIfInBounds_toArray, List.set_cons_succ, List.set_cons_zero]
  apply EqGo.run
  focus
    kernel_rfl
  focus
    intro x K hK
    go_wp2_with fail
    first | exact hK x (Below.refl _ _) | exact Below.refl _ _
  simp only [Act.put, List.setIfInBounds_toArray, List.set_cons_succ, List.set_cons_zero]
  apply EqGo.run
  focus
    kernel_rfl
  focus
    intro x K hK
    go_wp2_with fail
    first | exact hK x (Below.refl _ _) | exact Below.refl _ _
  simp only [Act.put, List.setIfInBounds_toArray, List.set_cons_succ, List.set_cons_zero]
  apply EqGo.run
  focus
    kernel_rfl
  focus
    intro x K hK
    go_wp2_with fail
    first | exact hK x (Below.refl _ _) | exact Below.refl _ _
  simp only [Act.put, List.setIfInBounds_toArray, List.set_cons_succ, List.set_cons_zero]
  apply EqGo.run
  focus
    kernel_rfl
  focus
    intro x K hK
    go_wp2_with fail
    first | exact hK x (Below.refl _ _) | exact Below.refl _ _
  simp only [Act.put, List.setIfInBounds_toArray, List.set_cons_succ, List.set_cons_zero]
  apply EqGo.run
  focus
    kernel_rfl
  focus
    intro x K hK
    go_wp2_with fail
    refine (Hid.out HHE x.val x.below).mono ?_
    rintro e x' ⟨rfl, hb'⟩
    exact hK ⟨x', x.below.trans (hb'.mono x.below.size)⟩ hb'
  simp only [Act.put, List.setIfInBounds_toArray, List.set_cons_succ, List.set_cons_zero]
  apply EqGo.run
  focus
    kernel_rfl
  focus
    intro x K hK
    go_wp2_with fail
    first | exact hK x (Below.refl _ _) | exact Below.refl _ _
  simp only [Act.put, List.setIfInBounds_toArray, List.set_cons_succ, List.set_cons_zero]
  apply EqGo.run
  focus
    kernel_rfl
  focus
    intro x K hK
    go_wp2_with fail
    first | exact hK x (Below.refl _ _) | exact Below.refl _ _
  simp only [Act.put, List.setIfInBounds_toArray, List.set_cons_succ, List.set_cons_zero]
  intro z K hK
  obtain ⟨⟨u1, hu1⟩, fu1, ⟨u2, hu2⟩, fu2, hsA, hfA, hsB, hfB⟩ := HST.out z.val z.below
  replace HF := Lib.hid (HF.out.trans hfB)
  replace HS := Lib.hid hsB
  clear hsA hfA hsB hfB HST HHE l0
  go_wp2_with fail
  refine hK undef _ ?_
  clear hK K hu1 fu1 hu2 fu2 u1 u2
  intro z2
  replace HF := Lib.hid (HF.out.trans (FrW.of z2.below HS.out.bw))
  replace HS := Lib.hid (HS.out.below z2.below)
  generalize z2.val = W' at *
  clear z2 gP gn8
  have HFIN := Lib.hid (HS.out.done (sz := 8 * (flat t0).length + 4) (by omega))
  go_wp2_with fail
  go_returns
  exact HFIN.out
set_option maxRecDepth 100000 in
set_option maxHeartbeats 8000000 in
theorem tk33 (t0 t1 : Tr) (HT0 : WordOk t0) (HT1 : DoOk t1) (n kk z : Int) (s : List UInt8) (hs : s.length ≤ 2000) (base g : Nat) (X : List Ins) (now high H : Nat) (A : Option Addr) (c m : Nat) (w : World) (h : TkIn base g X now high H ((flat t0).length + (flat t1).length) A [flat t0, flat t1] w) (hm : m = 2) (hH0 : heightT t0 ≤ H) (hH1 : heightT t1 ≤ H) (h1H : 1 ≤ H) :
    Calls Tryd.prog 68 #[.pointer (some ⟨g, 0, none⟩), .agg #[.int .i64 33, .int .i64 n, .int .i64 kk, .int .i64 z, .string ⟨s.toArray⟩], .slice A m c] w (TkRet base g X now high H ((flat t0).length + (flat t1).length) w) := by
  subst hm
  obtain ⟨kb, ko, _, rfl, -⟩ := h.kd.at_ (k := 0) (by simp)
  have hx := h.x
  have hnow := h.nb
  have h9 := h.h9
  have HSL := Lib.hid hs
  have HIN := Lib.hid h
  have HBX := Lib.hid (Blk.new w 98 #[.int .i64 33, .int .i64 n, .int .i64 kk, .int .i64 z, .string ⟨s.toArray⟩])
  have hbb : Below w.heap.size w (w.alloc (.cells #[.int .i64 33, .int .i64 n, .int .i64 kk, .int .i64 z, .string ⟨s.toArray⟩] 98)) := (Below.refl _ w).alloc (Nat.le_refl _) _
  have HS := Lib.hid (h.st hbb)
  have HBB := Lib.hid hbb
  generalize hw1 : w.alloc (.cells #[.int .i64 33, .int .i64 n, .int .i64 kk, .int .i64 z, .string ⟨s.toArray⟩] 98) = w1 at *
  have HW1 := Lib.hid hw1
  obtain ⟨gx, hgx⟩ : ∃ gx, gx = w.heap.size := ⟨_, rfl⟩
  rw [← hgx] at HBX
  have HGX := Lib.hid hgx
  have HF := Lib.hid (FrW.refl base w1)
  have q0 := HBX.out.cell 0
  have q1 := HBX.out.cell 1
  have q4 := HBX.out.cell 4
  simp only [List.getElem?_toArray, List.getElem?_cons_zero, List.getElem?_cons_succ] at q0 q1 q4
  clear h hs hw1 hgx hbb
  have HCC := Lib.hid (around_any t0 t1 HT0 HT1 30 31 n [] (by omega) (by first | exact HSL.out | simp) base g X now high H _ c 2 w1 (HIN.out.wr.below HBB.out) (HIN.out.kd.frw (FrW.of HBB.out HIN.out.bw)) rfl (Nat.le_trans HIN.out.bw HBB.out.size) hH0 hH1 h1H (by omega) (by omega) HIN.out.hi h9)
  go_enter Tryd.func68, Tryd.ntmps68
  go_upto_region 1 with (fail)
  rw [HW1.out, ← HGX.out]
  clear HW1 HGX
  go_wp2_with fail
  refine HCC.out.mono ?_
  intro e W' hw'
  obtain ⟨Y, hi2, rfl, r1, r2, r3, r4, r5, r6⟩ := hw'
  have HFIN := Lib.hid (show TkRet base g X now high H ((flat t0).length + (flat t1).length) w (.returned (.tuple #[])) W' from TkRet.of (w1 := w1) ⟨Y, hi2, rfl, r1, r2, r3, by omega, r5, r6⟩ HBB.out HIN.out.bw)
  clear r1 r2 r3 r4 r5 r6 HCC
  go_wp2_with fail
  go_returns
  exact HFIN.out
set_option maxRecDepth 100000 in
set_option maxHeartbeats 8000000 in
theorem tk34 (t0 t1 : Tr) (HT0 : WordOk t0) (HT1 : DoOk t1) (n kk z : Int) (s : List UInt8) (hs : s.length ≤ 2000) (base g : Nat) (X : List Ins) (now high H : Nat) (A : Option Addr) (c m : Nat) (w : World) (h : TkIn base g X now high H ((flat t0).length + (flat t1).length) A [flat t0, flat t1] w) (hm : m = 2) (hH0 : heightT t0 ≤ H) (hH1 : heightT t1 ≤ H) (h1H : 1 ≤ H) :
    Calls Tryd.prog 68 #[.pointer (some ⟨g, 0, none⟩), .agg #[.int .i64 34, .int .i64 n, .int .i64 kk, .int .i64 z, .string ⟨s.toArray⟩], .slice A m c] w (TkRet base g X now high H ((flat t0).length + (flat t1).length) w) := by
  subst hm
  obtain ⟨kb, ko, _, rfl, -⟩ := h.kd.at_ (k := 0) (by simp)
  have hx := h.x
  have hnow := h.nb
  have h9 := h.h9
  have HSL := Lib.hid hs
  have HIN := Lib.hid h
  have HBX := Lib.hid (Blk.new w 98 #[.int .i64 34, .int .i64 n, .int .i64 kk, .int .i64 z, .string ⟨s.toArray⟩])
  have hbb : Below w.heap.size w (w.alloc (.cells #[.int .i64 34, .int .i64 n, .int .i64 kk, .int .i64 z, .string ⟨s.toArray⟩] 98)) := (Below.refl _ w).alloc (Nat.le_refl _) _
  have HS := Lib.hid (h.st hbb)
  have HBB := Lib.hid hbb
  generalize hw1 : w.alloc (.cells #[.int .i64 34, .int .i64 n, .int .i64 kk, .int .i64 z, .string ⟨s.toArray⟩] 98) = w1 at *
  have HW1 := Lib.hid hw1
  obtain ⟨gx, hgx⟩ : ∃ gx, gx = w.heap.size := ⟨_, rfl⟩
  rw [← hgx] at HBX
  have HGX := Lib.hid hgx
  have HF := Lib.hid (FrW.refl base w1)
  have q0 := HBX.out.cell 0
  have q1 := HBX.out.cell 1
  have q4 := HBX.out.cell 4
  simp only [List.getElem?_toArray, List.getElem?_cons_zero, List.getElem?_cons_succ] at q0 q1 q4
  clear h hs hw1 hgx hbb
  have HCC := Lib.hid (around_any t0 t1 HT0 HT1 32 33 0 [] (by omega) (by first | exact HSL.out | simp) base g X now high H _ c 2 w1 (HIN.out.wr.below HBB.out) (HIN.out.kd.frw (FrW.of HBB.out HIN.out.bw)) rfl (Nat.le_trans HIN.out.bw HBB.out.size) hH0 hH1 h1H (by omega) (by omega) HIN.out.hi h9)
  go_enter Tryd.func68, Tryd.ntmps68
  go_upto_region 1 with (fail)
  rw [HW1.out, ← HGX.out]
  clear HW1 HGX
  go_wp2_with fail
  refine HCC.out.mono ?_
  intro e W' hw'
  obtain ⟨Y, hi2, rfl, r1, r2, r3, r4, r5, r6⟩ := hw'
  have HFIN := Lib.hid (show TkRet base g X now high H ((flat t0).length + (flat t1).length) w (.returned (.tuple #[])) W' from TkRet.of (w1 := w1) ⟨Y, hi2, rfl, r1, r2, r3, by omega, r5, r6⟩ HBB.out HIN.out.bw)
  clear r1 r2 r3 r4 r5 r6 HCC
  go_wp2_with fail
  go_returns
  exact HFIN.out
set_option maxRecDepth 100000 in
set_option maxHeartbeats 8000000 in
theorem tk35 (t0 t1 : Tr) (HT0 : WordOk t0) (HT1 : DoOk t1) (n kk z : Int) (s : List UInt8) (hs : s.length ≤ 2000) (base g : Nat) (X : List Ins) (now high H : Nat) (A : Option Addr) (c m : Nat) (w : World) (h : TkIn base g X now high H ((flat t0).length + (flat t1).length) A [flat t0, flat t1] w) (hm : m = 2) (hH0 : heightT t0 ≤ H) (hH1 : heightT t1 ≤ H) (h1H : 1 ≤ H) :
    Calls Tryd.prog 68 #[.pointer (some ⟨g, 0, none⟩), .agg #[.int .i64 35, .int .i64 n, .int .i64 kk, .int .i64 z, .string ⟨s.toArray⟩], .slice A m c] w (TkRet base g X now high H ((flat t0).length + (flat t1).length) w) := by
  subst hm
  obtain ⟨kb, ko, _, rfl, -⟩ := h.kd.at_ (k := 0) (by simp)
  have hx := h.x
  have hnow := h.nb
  have h9 := h.h9
  have HSL := Lib.hid hs
  have HIN := Lib.hid h
  have HBX := Lib.hid (Blk.new w 98 #[.int .i64 35, .int .i64 n, .int .i64 kk, .int .i64 z, .string ⟨s.toArray⟩])
  have hbb : Below w.heap.size w (w.alloc (.cells #[.int .i64 35, .int .i64 n, .int .i64 kk, .int .i64 z, .string ⟨s.toArray⟩] 98)) := (Below.refl _ w).alloc (Nat.le_refl _) _
  have HS := Lib.hid (h.st hbb)
  have HBB := Lib.hid hbb
  generalize hw1 : w.alloc (.cells #[.int .i64 35, .int .i64 n, .int .i64 kk, .int .i64 z, .string ⟨s.toArray⟩] 98) = w1 at *
  have HW1 := Lib.hid hw1
  obtain ⟨gx, hgx⟩ : ∃ gx, gx = w.heap.size := ⟨_, rfl⟩
  rw [← hgx] at HBX
  have HGX := Lib.hid hgx
  have HF := Lib.hid (FrW.refl base w1)
  have q0 := HBX.out.cell 0
  have q1 := HBX.out.cell 1
  have q4 := HBX.out.cell 4
  simp only [List.getElem?_toArray, List.getElem?_cons_zero, List.getElem?_cons_succ] at q0 q1 q4
  clear h hs hw1 hgx hbb
  have HCC := Lib.hid (around_any t0 t1 HT0 HT1 34 35 0 s (by omega) (by first | exact HSL.out | simp) base g X now high H _ c 2 w1 (HIN.out.wr.below HBB.out) (HIN.out.kd.frw (FrW.of HBB.out HIN.out.bw)) rfl (Nat.le_trans HIN.out.bw HBB.out.size) hH0 hH1 h1H (by omega) (by omega) HIN.out.hi h9)
  go_enter Tryd.func68, Tryd.ntmps68
  go_upto_region 1 with (fail)
  rw [HW1.out, ← HGX.out]
  clear HW1 HGX
  go_wp2_with fail
  refine HCC.out.mono ?_
  intro e W' hw'
  obtain ⟨Y, hi2, rfl, r1, r2, r3, r4, r5, r6⟩ := hw'
  have HFIN := Lib.hid (show TkRet base g X now high H ((flat t0).length + (flat t1).length) w (.returned (.tuple #[])) W' from TkRet.of (w1 := w1) ⟨Y, hi2, rfl, r1, r2, r3, by omega, r5, r6⟩ HBB.out HIN.out.bw)
  clear r1 r2 r3 r4 r5 r6 HCC
  go_wp2_with fail
  go_returns
  exact HFIN.out
set_option maxRecDepth 100000 in
set_option maxHeartbeats 8000000 in
theorem tk30 (ks : List Tr) (p : Nat) (hodd : ks.length = 2 * p + 1) (HW : ∀ k (h : k < ks.length), (k = 0 ∨ k % 2 = 1) → WordOk ks[k]) (HD : ∀ k (h : k < ks.length), k ≠ 0 → k % 2 = 0 → DoOk ks[k]) (n kk z : Int) (s : List UInt8) (hs : s.length ≤ 2000) (base g : Nat) (X : List Ins) (now high H : Nat) (A : Option Addr) (c m : Nat) (w : World) (h : TkIn base g X now high H (flatAll ks).length A (ks.map flat) w) (hm : m = ks.length) (hH : ∀ i (h : i < ks.length), heightT ks[i] + i % 2 ≤ H) :
    Calls Tryd.prog 68 #[.pointer (some ⟨g, 0, none⟩), .agg #[.int .i64 30, .int .i64 n, .int .i64 kk, .int .i64 z, .string ⟨s.toArray⟩], .slice A m c] w (TkRet base g X now high H (flatAll ks).length w) := by
  obtain ⟨kb, ko, _, rfl, -⟩ := h.kd.at_ (k := 0) (by simp; omega)
  have hx := h.x
  have hnow := h.nb
  have h9 := h.h9
  have HSL := Lib.hid hs
  have HIN := Lib.hid h
  have HBX := Lib.hid (Blk.new w 98 #[.int .i64 30, .int .i64 n, .int .i64 kk, .int .i64 z, .string ⟨s.toArray⟩])
  have hbb : Below w.heap.size w (w.alloc (.cells #[.int .i64 30, .int .i64 n, .int .i64 kk, .int .i64 z, .string ⟨s.toArray⟩] 98)) := (Below.refl _ w).alloc (Nat.le_refl _) _
  have HS := Lib.hid (h.st hbb)
  have HBB := Lib.hid hbb
  generalize hw1 : w.alloc (.cells #[.int .i64 30, .int .i64 n, .int .i64 kk, .int .i64 z, .string ⟨s.toArray⟩] 98) = w1 at *
  have HW1 := Lib.hid hw1
  obtain ⟨gx, hgx⟩ : ∃ gx, gx = w.heap.size := ⟨_, rfl⟩
  rw [← hgx] at HBX
  have HGX := Lib.hid hgx
  have HF := Lib.hid (FrW.refl base w1)
  have q0 := HBX.out.cell 0
  have q1 := HBX.out.cell 1
  have q4 := HBX.out.cell 4
  simp only [List.getElem?_toArray, List.getElem?_cons_zero, List.getElem?_cons_succ] at q0 q1 q4
  clear h hs hw1 hgx hbb
  have HCC := Lib.hid (choose_any ks p hodd HW HD base g X now high H _ c m w1 (HIN.out.wr.below HBB.out) (HIN.out.kd.frw (FrW.of HBB.out HIN.out.bw)) hm (Nat.le_trans HIN.out.bw HBB.out.size) hH (by omega) (by omega) HIN.out.hi h9)
  generalize (flatAll ks).length = fl at *
  clear HW HD hH hodd hm
  go_enter Tryd.func68, Tryd.ntmps68
  go_upto_region 1 with (fail)
  rw [HW1.out, ← HGX.out]
  clear HW1 HGX
  go_wp2_with fail
  refine HCC.out.mono ?_
  intro e W' hw'
  obtain ⟨Y, hi2, rfl, r1, r2, r3, r4, r5, r6⟩ := hw'
  have HFIN := Lib.hid (show TkRet base g X now high H fl w (.returned (.tuple #[])) W' from TkRet.of (w1 := w1) ⟨Y, hi2, rfl, r1, r2, r3, by omega, r5, r6⟩ HBB.out HIN.out.bw)
  clear r1 r2 r3 r4 r5 r6 HCC
  go_wp2_with fail
  go_returns
  exact HFIN.out
set_option maxRecDepth 100000 in
set_option maxHeartbeats 8000000 in
theorem tk21 (ks : List Tr) (HW : ∀ t ∈ ks, WordOk t) (h1 : 1 ≤ ks.length) (n kk z : Int) (s : List UInt8) (hs : s.length ≤ 2000) (base g : Nat) (X : List Ins) (now high H : Nat) (A : Option Addr) (c m : Nat) (w : World) (h : TkIn base g X now high H (flatAll ks).length A (ks.map flat) w) (hm : m = ks.length) (hH : ∀ i (h : i < ks.length), heightT ks[i] + i ≤ H) :
    Calls Tryd.prog 68 #[.pointer (some ⟨g, 0, none⟩), .agg #[.int .i64 21, .int .i64 n, .int .i64 kk, .int .i64 z, .string ⟨s.toArray⟩], .slice A m c] w (TkRet base g X now high H (flatAll ks).length w) := by
  obtain ⟨kb, ko, _, rfl, -⟩ := h.kd.at_ (k := 0) (by simp; omega)
  have hx := h.x
  have hnow := h.nb
  have h9 := h.h9
  have HSL := Lib.hid hs
  have HIN := Lib.hid h
  have HBX := Lib.hid (Blk.new w 98 #[.int .i64 21, .int .i64 n, .int .i64 kk, .int .i64 z, .string ⟨s.toArray⟩])
  have hbb : Below w.heap.size w (w.alloc (.cells #[.int .i64 21, .int .i64 n, .int .i64 kk, .int .i64 z, .string ⟨s.toArray⟩] 98)) := (Below.refl _ w).alloc (Nat.le_refl _) _
  have HS := Lib.hid (h.st hbb)
  have HBB := Lib.hid hbb
  generalize hw1 : w.alloc (.cells #[.int .i64 21, .int .i64 n, .int .i64 kk, .int .i64 z, .string ⟨s.toArray⟩] 98) = w1 at *
  have HW1 := Lib.hid hw1
  obtain ⟨gx, hgx⟩ : ∃ gx, gx = w.heap.size := ⟨_, rfl⟩
  rw [← hgx] at HBX
  have HGX := Lib.hid hgx
  have HF := Lib.hid (FrW.refl base w1)
  have q0 := HBX.out.cell 0
  have q1 := HBX.out.cell 1
  have q4 := HBX.out.cell 4
  simp only [List.getElem?_toArray, List.getElem?_cons_zero, List.getElem?_cons_succ] at q0 q1 q4
  clear h hs hw1 hgx hbb
  have hkl := len_flatAll ks
  have HCC := Lib.hid (HS.out.sub' (fun Y hi hp => together_any ks HW 3 0 (.inl rfl) (.inl rfl) base g (X ++ Y) now hi H _ c m w1 hp.wr.wr hp.kd hm hp.wr.bw hH (by rw [List.length_append]; have := hp.n; omega) (by omega) (by have := hp.wr.hi; have := hp.cap; omega) h9) (Nat.le_refl _))
  have hmn : min (m : Int) 2 = ((min m 2 : Nat) : Int) := by omega
  have hm8 : m ≤ 30000000 := by omega
  have hmk : m ≤ (flatAll ks).length := by omega
  generalize (flatAll ks).length = fl at *
  obtain ⟨mn, hmm⟩ : ∃ mn, mn = min m 2 := ⟨_, rfl⟩
  have hmn2 : mn ≤ 2 := by omega
  rw [← hmm] at hmn HCC
  clear HW hH h1 hm hmm hkl
  go_enter Tryd.func68, Tryd.ntmps68
  go_upto_region 1 with (fail)
  rw [HW1.out, ← HGX.out]
  clear HW1 HGX
  go_wp2_with fail
  refine HCC.out.mono ?_
  rintro e W' ⟨rfl, hs', hf'⟩
  replace HS := Lib.hid hs'
  replace HF := Lib.hid (HF.out.trans hf')
  clear hs' hf' HCC q0 q1 q4
  have HCC := Lib.hid (HS.out.op_ 15 mn 0 [] (fun m _ => by simp [okI, placeA, placeB, countA]) (by omega))
  go_wp2_with fail
  refine HCC.out.mono ?_
  rintro e W' ⟨P1, rfl, hX1, hL1, hP1, hs', hf'⟩
  replace HS := Lib.hid hs'
  replace HF := Lib.hid (HF.out.trans hf')
  clear hs' hf' HCC
  have HCC := Lib.hid (HS.out.push_ now (-(mn : Int)) (by omega) (by omega) (by omega))
  go_wp2_with fail
  refine HCC.out.mono ?_
  rintro e W' ⟨rfl, hs', hf'⟩
  replace HS := Lib.hid hs'
  replace HF := Lib.hid (HF.out.trans hf')
  clear hs' hf' HCC
  have HFIN := Lib.hid (HS.out.done (sz := 8 * fl + 4) (by omega))
  go_wp2_with fail
  go_returns
  exact HFIN.out
set_option maxRecDepth 100000 in
set_option maxHeartbeats 8000000 in
theorem tk32 (ks : List Tr) (HD : ∀ k (h : k < ks.length), DoOk ks[k]) (h1 : 1 ≤ ks.length) (n kk z : Int) (s : List UInt8) (hs : s.length ≤ 2000) (base g : Nat) (X : List Ins) (now high H : Nat) (A : Option Addr) (c m : Nat) (w : World) (h : TkIn base g X now high H (flatAll ks).length A (ks.map flat) w) (hm : m = ks.length) (hH : ∀ i (h : i < ks.length), heightT ks[i] ≤ H) :
    Calls Tryd.prog 68 #[.pointer (some ⟨g, 0, none⟩), .agg #[.int .i64 32, .int .i64 n, .int .i64 kk, .int .i64 z, .string ⟨s.toArray⟩], .slice A m c] w (TkRet base g X now high H (flatAll ks).length w) := by
  obtain ⟨kb, ko, _, rfl, -⟩ := h.kd.at_ (k := 0) (by simp; omega)
  have hx := h.x
  have hnow := h.nb
  have h9 := h.h9
  have HSL := Lib.hid hs
  have HIN := Lib.hid h
  have HBX := Lib.hid (Blk.new w 98 #[.int .i64 32, .int .i64 n, .int .i64 kk, .int .i64 z, .string ⟨s.toArray⟩])
  have hbb : Below w.heap.size w (w.alloc (.cells #[.int .i64 32, .int .i64 n, .int .i64 kk, .int .i64 z, .string ⟨s.toArray⟩] 98)) := (Below.refl _ w).alloc (Nat.le_refl _) _
  have HS := Lib.hid (h.st hbb)
  have HBB := Lib.hid hbb
  generalize hw1 : w.alloc (.cells #[.int .i64 32, .int .i64 n, .int .i64 kk, .int .i64 z, .string ⟨s.toArray⟩] 98) = w1 at *
  have HW1 := Lib.hid hw1
  obtain ⟨gx, hgx⟩ : ∃ gx, gx = w.heap.size := ⟨_, rfl⟩
  rw [← hgx] at HBX
  have HGX := Lib.hid hgx
  have HF := Lib.hid (FrW.refl base w1)
  have q0 := HBX.out.cell 0
  have q1 := HBX.out.cell 1
  have q4 := HBX.out.cell 4
  simp only [List.getElem?_toArray, List.getElem?_cons_zero, List.getElem?_cons_succ] at q0 q1 q4
  clear h hs hw1 hgx hbb
  have hkl := len_flatAll ks
  have hm8 : m ≤ 30000000 := by omega
  have HDO := Lib.hid HD
  have HHH := Lib.hid hH
  have HM := Lib.hid hm
  obtain ⟨fl, hfl⟩ : ∃ fl, fl = (flatAll ks).length := ⟨_, rfl⟩
  have HFL := Lib.hid hfl
  rw [← hfl] at hx hnow ⊢
  have hs0 : sumT ks 0 = 0 := by unfold sumT; rw [List.take_zero, flatAll_nil]; rfl
  clear HD hH h1 hm hkl hfl
  go_enter Tryd.func68, Tryd.ntmps68
  go_upto_region 1 with (fail)
  rw [HW1.out, ← HGX.out]
  clear HW1 HGX
  have HCC := Lib.hid (HS.out.op_ 27 m 0 [] (fun m _ => by simp [okI, placeA, placeB, countA]) (by omega))
  go_wp2_with fail
  refine HCC.out.mono ?_
  rintro e W' ⟨P1, rfl, hX1, hL1, hP1, hs', hf'⟩
  replace HS := Lib.hid hs'
  replace HF := Lib.hid (HF.out.trans hf')
  clear hs' hf' HCC
  have HS1 := Lib.hid (HS.out.weak (lo' := X.length) (n' := 8 * sumT ks 0 + 1) (by omega) (by omega))
  clear HS HF q0 q1 q4 hs0
  go_wp2_with fail
  go_loopw [102] (fun i wr => ∃ q : Nat, q ≤ m ∧ i = .int .i64 q ∧ Hid (St base g X now high H w (some ⟨kb, ko, none⟩) (ks.map flat) wr now X.length (8 * sumT ks q + 1))) (fun i _ => m - (intOf i).toNat)
  case atStart => exact ⟨0, Nat.zero_le _, rfl, HS1⟩
  case round =>
    obtain ⟨q, hq, rfl, HS⟩ := hrel
    clear HS1
    have HF := Lib.hid (FrW.refl base wr)
    by_cases hlt : q < m
    · have hqk : q < ks.length := by rw [← HM.out]; exact hlt
      have hsum := sumT_succ ks q hqk
      have hsl := sumT_le ks (q + 1)
      rw [← HFL.out] at hsl
      have hHq := HHH.out q hqk
      have hDq := HDO.out q hqk
      obtain ⟨t, ht⟩ : ∃ t, t = ks[q] := ⟨_, rfl⟩
      rw [← ht] at hsum hHq hDq
      have HK1 := Lib.hid (show q < (ks.map flat).length from by simpa using hqk)
      have HL1 := Lib.hid (show ∀ h : q < (ks.map flat).length, (ks.map flat)[q] = flat t from fun h => by rw [ht]; simp)
      have hpt := flat_pos t
      clear ht hqk
      obtain ⟨Av, nv, cv, hkc, hcc⟩ := (HS.out.do_ (k := q) hDq HK1.out (HL1.out _) (by omega) (by omega) (by omega))
      have HCC := Lib.hid hcc
      clear hcc
      first | (simp only [Nat.add_zero] at hkc) | skip
      go_wp2_with fail
      refine HCC.out.mono ?_
      rintro e W' ⟨rfl, hs', hf'⟩
      replace HS := Lib.hid hs'
      replace HF := Lib.hid (HF.out.trans hf')
      clear hs' hf' HCC hkc
      by_cases hq1 : q + 1 < m
      · have hd1 : decide ((q : Int) < (m : Int) - 1) = true := decide_eq_true (by omega)
        have HCC := Lib.hid (HS.out.op_ 28 0 0 [] (fun m _ => by simp [okI, placeA, placeB, countA]) (by omega))
        go_wp2_with fail
        refine HCC.out.mono ?_
        rintro e W' ⟨P2, rfl, hX2, hL2, hP2, hs', hf'⟩
        replace HS := Lib.hid hs'
        replace HF := Lib.hid (HF.out.trans hf')
        clear hs' hf' HCC
        have HSF := Lib.hid (HS.out.weak (lo' := X.length) (n' := 8 * sumT ks (q + 1) + 1) (by omega) (by omega))
        clear HS HF
        go_wp2_with fail
        go_roundw
        case rel => exact ⟨q + 1, by omega, by go_num, HSF⟩
        case measure => simp [intOf]; omega
      · have hd1 : decide ((q : Int) < (m : Int) - 1) = false := decide_eq_false (by omega)
        have HSF := Lib.hid (HS.out.weak (lo' := X.length) (n' := 8 * sumT ks (q + 1) + 1) (by omega) (by omega))
        clear HS HF
        go_wp2_with fail
        go_roundw
        case rel => exact ⟨q + 1, by omega, by go_num, HSF⟩
        case measure => simp [intOf]; omega
    · obtain rfl : q = m := by omega
      have hs9 : sumT ks q = fl := by
        unfold sumT
        rw [List.take_of_length_le (by rw [← HM.out]; exact Nat.le_refl _), HFL.out]
      rw [hs9] at HS
      have HCC := Lib.hid (HS.out.op_ 29 0 0 [] (fun m _ => by simp [okI, placeA, placeB, countA]) (by omega))
      go_wp2_with fail
      refine HCC.out.mono ?_
      rintro e W' ⟨P3, rfl, hX3, hL3, hP3, hs', hf'⟩
      replace HS := Lib.hid hs'
      replace HF := Lib.hid (HF.out.trans hf')
      clear hs' hf' HCC
      have HFIN := Lib.hid (HS.out.done (sz := 8 * fl + 4) (by omega))
      go_wp2_with fail
      go_returns
      exact HFIN.out
set_option maxRecDepth 100000 in
set_option maxHeartbeats 8000000 in
theorem tk37 (ks : List Tr) (p : Nat) (hp : ks.length = p + 1) (HW : ∀ t ∈ ks.take p, WordOk t) (HD : ∀ h : p < ks.length, DoOk ks[p]) (n kk z : Int) (s : List UInt8) (hs : s.length ≤ 2000) (base g : Nat) (X : List Ins) (now high H : Nat) (A : Option Addr) (c m : Nat) (w : World) (h : TkIn base g X now high H (flatAll ks).length A (ks.map flat) w) (hm : m = p + 1) (hmc : m ≤ c) (hH : ∀ i (h : i < (ks.take p).length), heightT (ks.take p)[i] + i ≤ H) (hHp : ∀ h : p < ks.length, heightT ks[p] ≤ H) :
    Calls Tryd.prog 68 #[.pointer (some ⟨g, 0, none⟩), .agg #[.int .i64 37, .int .i64 n, .int .i64 kk, .int .i64 z, .string ⟨s.toArray⟩], .slice A m c] w (TkRet base g X now high H (flatAll ks).length w) := by
  subst hm
  obtain ⟨kb, ko, _, rfl, -⟩ := h.kd.at_ (k := 0) (by simp; omega)
  have hx := h.x
  have hnow := h.nb
  have h9 := h.h9
  have HSL := Lib.hid hs
  have HIN := Lib.hid h
  have HBX := Lib.hid (Blk.new w 98 #[.int .i64 37, .int .i64 n, .int .i64 kk, .int .i64 z, .string ⟨s.toArray⟩])
  have hbb : Below w.heap.size w (w.alloc (.cells #[.int .i64 37, .int .i64 n, .int .i64 kk, .int .i64 z, .string ⟨s.toArray⟩] 98)) := (Below.refl _ w).alloc (Nat.le_refl _) _
  have HS := Lib.hid (h.st hbb)
  have HBB := Lib.hid hbb
  generalize hw1 : w.alloc (.cells #[.int .i64 37, .int .i64 n, .int .i64 kk, .int .i64 z, .string ⟨s.toArray⟩] 98) = w1 at *
  have HW1 := Lib.hid hw1
  obtain ⟨gx, hgx⟩ : ∃ gx, gx = w.heap.size := ⟨_, rfl⟩
  rw [← hgx] at HBX
  have HGX := Lib.hid hgx
  have HF := Lib.hid (FrW.refl base w1)
  have q0 := HBX.out.cell 0
  have q1 := HBX.out.cell 1
  have q4 := HBX.out.cell 4
  simp only [List.getElem?_toArray, List.getElem?_cons_zero, List.getElem?_cons_succ] at q0 q1 q4
  clear h hs hw1 hgx hbb
  have hkl := len_flatAll ks
  have htl : (ks.take p).length = p := by rw [List.length_take]; omega
  have hpk : p < ks.length := by omega
  have hsum : sumT ks (p + 1) = sumT ks p + (flat ks[p]).length := sumT_succ ks p hpk
  have hs9 : sumT ks (p + 1) = (flatAll ks).length := by
    unfold sumT
    rw [List.take_of_length_le (by omega)]
  have hsp : (flatAll (ks.take p)).length = sumT ks p := rfl
  have HCC := Lib.hid (HS.out.sub' (fun Y hi hp2 => together_any (ks.take p) HW 38 1 (.inr (.inr rfl)) (.inr rfl) base g (X ++ Y) now hi H _ c p w1 hp2.wr.wr (by rw [List.map_take]; exact hp2.kd.take p) htl.symm hp2.wr.bw hH (by rw [List.length_append]; have := hp2.n; omega) (by omega) (by have := hp2.wr.hi; have := hp2.cap; omega) h9) (Nat.le_refl _))
  have hDp := HD hpk
  have hHp2 := hHp hpk
  have hmn : min (p : Int) 2 = ((min p 2 : Nat) : Int) := by omega
  have hm8 : p ≤ 30000000 := by omega
  obtain ⟨t, ht⟩ : ∃ t, t = ks[p] := ⟨_, rfl⟩
  rw [← ht] at hsum hDp hHp2
  have HK1 := Lib.hid (show p < (ks.map flat).length from by simpa using hpk)
  have HL1 := Lib.hid (show ∀ h : p < (ks.map flat).length, (ks.map flat)[p] = flat t from fun h => by rw [ht]; simp)
  have hpt := flat_pos t
  rw [hsp] at HCC
  generalize (flatAll ks).length = fl at *
  generalize sumT ks p = sp at *
  obtain ⟨mn, hmm⟩ : ∃ mn, mn = min p 2 := ⟨_, rfl⟩
  have hmn2 : mn ≤ 2 := by omega
  rw [← hmm] at hmn HCC
  clear HW HD hH hHp hp hmm hkl ht hpk hsp htl
  go_enter Tryd.func68, Tryd.ntmps68
  go_upto_region 1 with (fail)
  rw [HW1.out, ← HGX.out]
  clear HW1 HGX
  go_wp2_with fail
  refine HCC.out.mono ?_
  rintro e W' ⟨rfl, hs', hf'⟩
  replace HS := Lib.hid hs'
  replace HF := Lib.hid (HF.out.trans hf')
  clear hs' hf' HCC q0 q1 q4
  have HCC := Lib.hid (HS.out.op_ 38 mn 0 [] (fun m _ => by simp [okI, placeA, placeB, countA]) (by omega))
  go_wp2_with fail
  refine HCC.out.mono ?_
  rintro e W' ⟨P1, rfl, hX1, hL1, hP1, hs', hf'⟩
  replace HS := Lib.hid hs'
  replace HF := Lib.hid (HF.out.trans hf')
  clear hs' hf' HCC
  have HCC := Lib.hid (HS.out.push_ now (-(mn : Int)) (by omega) (by omega) (by omega))
  go_wp2_with fail
  refine HCC.out.mono ?_
  rintro e W' ⟨rfl, hs', hf'⟩
  replace HS := Lib.hid hs'
  replace HF := Lib.hid (HF.out.trans hf')
  clear hs' hf' HCC
  obtain ⟨Av, nv, cv, hkc, hcc⟩ := (HS.out.do_ (k := p) hDp HK1.out (HL1.out _) (by omega) (by omega) (by omega))
  have HCC := Lib.hid hcc
  clear hcc
  first | (simp only [Nat.add_zero] at hkc) | skip
  go_wp2_with fail
  refine HCC.out.mono ?_
  rintro e W' ⟨rfl, hs', hf'⟩
  replace HS := Lib.hid hs'
  replace HF := Lib.hid (HF.out.trans hf')
  clear hs' hf' HCC hkc
  have HCC := Lib.hid (HS.out.op_ 39 0 0 [] (fun m _ => by simp [okI, placeA, placeB, countA]) (by omega))
  go_wp2_with fail
  refine HCC.out.mono ?_
  rintro e W' ⟨P2, rfl, hX2, hL2, hP2, hs', hf'⟩
  replace HS := Lib.hid hs'
  replace HF := Lib.hid (HF.out.trans hf')
  clear hs' hf' HCC
  have HFIN := Lib.hid (HS.out.done (sz := 8 * fl + 4) (by omega))
  go_wp2_with fail
  go_returns
  exact HFIN.out
end Go.Proofs.YtpogngdddendiaaDoor

/- The walks over do, kind by kind; printed by gen/dostep.py. Bounds on the lengths. -/
set_option linter.unusedVariables false
set_option linter.unusedSimpArgs false
namespace Go.Proofs.YtpogngdddendiaaDoor
open Go.RowKit

/-- What ticked does with a node of this kind. -/
def TkOk (kd n : Int) (s : List UInt8) (ks : List Tr) : Prop := ∀ (kk z : Int) (base g : Nat) (X : List Ins) (now high H : Nat) (A : Option Addr) (c m : Nat) (w : World), TkIn base g X now high H (flatAll ks).length A (ks.map flat) w → H = heightT (.mk kd n s ks) → m = ks.length → m ≤ c →
  Calls Tryd.prog 68 #[.pointer (some ⟨g, 0, none⟩), .agg #[.int .i64 kd, .int .i64 n, .int .i64 kk, .int .i64 z, .string ⟨s.toArray⟩], .slice A m c] w (TkRet base g X now high H (flatAll ks).length w)
set_option maxRecDepth 100000 in
set_option maxHeartbeats 8000000 in
theorem dd20 (kd : Int) (hkd : kd = 20) (n : Int) (s : List UInt8) (ks : List Tr) (hkz : ∀ t ∈ ks, t.kind ≠ 0) (hs : s.length ≤ 2000)  : DoOk (.mk kd n s ks) := by
  have HKZ := Lib.hid hkz
  have HSL := Lib.hid hs
  have HKD := Lib.hid hkd
  clear hkz hs hkd 
  intro base g X now high v w h hv hbw hX hnow hhi
  rw [flat_size] at hX hnow ⊢
  have KC := Lib.hid (show ∀ W, SlRd W v (flat (.mk kd n s ks)) → Calls Tryd.prog 64 #[v] W (KidsRet (ks.map flat) W) from fun W h => by
    rw [← kidsL_flat kd n s ks]
    exact kids_any v _ W h (by rw [flat_size]; omega))
  have hH9 : now + heightT (.mk kd n s ks) ≤ 30000000 := by have := heightT_len (.mk kd n s ks); rw [flat_size] at this; omega
  have HV := Lib.hid hv.rd
  have HWR := Lib.hid h
  obtain ⟨A0, cp0, hve, hrd, hc0, hm0, -⟩ := hv.rd
  have h0 : 0 < (flat (.mk kd n s ks)).length := flat_pos _
  obtain ⟨b, o, rfl, hbl⟩ := hrd.addr h0
  have hx := hrd.at_ h0
  rw [show (flat (.mk kd n s ks))[0] = ⟨kd, n, ks.length, ((1 + (flatAll ks).length : Nat) : Int), s⟩ by simp [flat_mk]] at hx
  have d0 := hx.2 0 _ rfl
  have d1 := hx.2 1 _ rfl
  have d2 := hx.2 2 _ rfl
  have d3 := hx.2 3 _ rfl
  have d4 := hx.2 4 _ rfl
  simp only [Nat.zero_mul, Nat.add_zero] at d0 d1 d2 d3 d4
  subst hve
  obtain ⟨m, hml⟩ : ∃ m, m = (flat (.mk kd n s ks)).length := ⟨_, rfl⟩
  have hm1 : 0 < m := by omega
  rw [← hml] at KC HV ⊢
  have hkn := len_flatAll ks
  have HKN := Lib.hid hkn
  have HH9 := Lib.hid hH9
  have HXX := Lib.hid (And.intro hX (And.intro hnow hhi))
  have HBW := Lib.hid hbw
  obtain ⟨Hh, hHh⟩ : ∃ Hh, Hh = heightT (.mk kd n s ks) := ⟨_, rfl⟩
  rw [← hHh]
  rw [← hHh] at HH9
  have HHQ := Lib.hid hHh
  obtain ⟨Zk, hZk⟩ : ∃ Zk : Int, Zk = ks.length := ⟨_, rfl⟩
  obtain ⟨Zz, hZz⟩ : ∃ Zz : Int, Zz = ((1 + (flatAll ks).length : Nat) : Int) := ⟨_, rfl⟩
  rw [← hZk] at d2
  rw [← hZz] at d3
  have HZK := Lib.hid hZk
  obtain ⟨kl, hkl⟩ : ∃ kl, kl = ks.length := ⟨_, rfl⟩
  have HKL := Lib.hid hkl
  have HZZ := Lib.hid hZz
  clear hx hrd hc0 hm0 hkn hml h0 hv h hH9 hX hnow hhi hbw hHh hZk hZz hkl
  go_enter Tryd.func33, Tryd.ntmps33
  go_upto_region 0 with (fail)
  apply wp_region_relA 6 [eqT _, eqT _, eqT (.agg #[.int .i64 kd, .int .i64 n, .int .i64 Zk, .int .i64 Zz, .string ⟨s.toArray⟩]), eqT _, kidsG w.heap.size kl (ks.map flat), newG 98 #[.int .i64 0, .int .i64 0, .int .i64 0, .int .i64 0, .string ⟨#[]⟩] w.heap.size] (by kernel_rfl) (by kernel_rfl) (by kernel_rfl) rfl
  focus
    refine ⟨?_, ?_⟩
    focus
      unfold opGoal
      rw [if_pos (by kernel_rfl)]
      intro x hb hd K hk
      clear hd
      go_wp2_with fail
      exact hk _ _ rfl trivial (Below.refl _ _)
    rintro _ rfl
    simp only [Act.put, List.setIfInBounds_toArray, List.set_cons_succ, List.set_cons_zero]
    refine ⟨?_, ?_⟩
    focus
      unfold opGoal
      rw [if_pos (by kernel_rfl)]
      intro x hb hd K hk
      clear hd
      go_wp2_with fail
      exact hk _ _ rfl trivial (Below.refl _ _)
    rintro _ rfl
    simp only [Act.put, List.setIfInBounds_toArray, List.set_cons_succ, List.set_cons_zero]
    refine ⟨?_, ?_⟩
    focus
      unfold opGoal
      rw [if_pos (by kernel_rfl)]
      intro x hb hd K hk
      clear hd
      have l0 := cell_keep hb d0
      have l1 := cell_keep hb d1
      have l2 := cell_keep hb d2
      have l3 := cell_keep hb d3
      have l4 := cell_keep hb d4
      go_wp2_with fail
      exact hk _ _ rfl trivial (Below.refl _ _)
    rintro _ rfl
    simp only [Act.put, List.setIfInBounds_toArray, List.set_cons_succ, List.set_cons_zero]
    refine ⟨?_, ?_⟩
    focus
      unfold opGoal
      rw [if_pos (by kernel_rfl)]
      intro x hb hd K hk
      clear hd
      go_wp2_with fail
      exact hk _ _ rfl trivial (Below.refl _ _)
    rintro _ rfl
    simp only [Act.put, List.setIfInBounds_toArray, List.set_cons_succ, List.set_cons_zero]
    refine ⟨?_, ?_⟩
    focus
      unfold opGoal
      rw [if_pos (by kernel_rfl)]
      intro x hb hd K hk
      clear hd
      have hsz := hb.size
      have HC := Lib.hid (KC.out x (HV.out.below hb))
      go_wp2_with fail
      refine HC.out.mono ?_
      rintro e x' ⟨A1, c1, vs, rfl, ho, ha, hb'⟩
      rw [List.length_map, ← HKL.out] at ho ⊢
      obtain ⟨A', c', he, hnc, -⟩ := own_form ho
      injection he with he1 _ he3
      subst he1 he3
      exact hk _ _ ⟨_, _, rfl⟩ ⟨A1, c1, vs, rfl, hnc, own_mono ho hsz, ha.mono hsz⟩ hb'
    rintro _ ⟨A1, c1, rfl⟩
    simp only [Act.put, List.setIfInBounds_toArray, List.set_cons_succ, List.set_cons_zero]
    refine ⟨?_, ?_⟩
    focus
      unfold opGoal
      rw [if_pos (by kernel_rfl)]
      intro x hb hd K hk
      clear hd
      go_wp2_with fail
      refine hk _ _ ⟨_, rfl⟩ ?_ ((Below.refl _ _).alloc (Nat.le_refl _) _)
      intro g' hg
      injection hg with hg
      injection hg with hg
      injection hg with hg
      subst hg
      exact ⟨Blk.new x _ _, hb.size⟩
    rintro _ ⟨gx, rfl⟩
    simp only [Act.put, List.setIfInBounds_toArray, List.set_cons_succ, List.set_cons_zero]
    intro y hby hf
    simp only [List.drop_succ_cons, List.drop_zero]
    have hk4 := hf 4 (kidsG w.heap.size kl (ks.map flat)) (.slice A1 kl c1) (by kernel_rfl) (by kernel_rfl)
    obtain ⟨hg5, hgw⟩ := (hf 5 (newG 98 #[.int .i64 0, .int .i64 0, .int .i64 0, .int .i64 0, .string ⟨#[]⟩] w.heap.size) (.pointer (some ⟨gx, 0, none⟩)) (by kernel_rfl) (by kernel_rfl)) gx rfl
    obtain ⟨_, _, vs4, he4, hcl, ho4, ha4⟩ := hk4
    injection he4 with he4 _ he5
    subst he4 he5
    have z0 := hg5.cell 0
    have z1 := hg5.cell 1
    have z2 := hg5.cell 2
    have z3 := hg5.cell 3
    have z4 := hg5.cell 4
    have y0 := hg5.frozen 0
    have y1 := hg5.frozen 1
    have y2 := hg5.frozen 2
    have y3 := hg5.frozen 3
    have y4 := hg5.frozen 4
    simp only [List.getElem?_toArray, List.getElem?_cons_zero, List.getElem?_cons_succ] at z0 z1 z2 z3 z4
    clear hf KC d0 d1 d2 d3 d4 hbl hm1
    have HQ5 := Lib.hid hg5
    have HO4 := Lib.hid ho4
    have HA4 := Lib.hid ha4
    have HBY := Lib.hid hby
    clear hg5 ho4 ha4 hby
    go_upto_region 1 with (fail)
    obtain ⟨W', hW1⟩ : ∃ W', W' = (((((y.setCell ⟨gx, 0, none⟩ (.int .i64 kd)).setCell ⟨gx, 1, none⟩ (.int .i64 n)).setCell ⟨gx, 2, none⟩ (.int .i64 Zk)).setCell ⟨gx, 3, none⟩ (.int .i64 Zz)).setCell ⟨gx, 4, none⟩ (.string ⟨s.toArray⟩)) := ⟨_, rfl⟩
    rw [← hW1]
    have hB1 : But gx y W' := by
      rw [hW1]
      exact ((((But.set y 0 _).trans (But.set _ 1 _)).trans (But.set _ 2 _)).trans (But.set _ 3 _)).trans (But.set _ 4 _)
    have HBX := Lib.hid (show Blk W' gx 98 #[.int .i64 kd, .int .i64 n, .int .i64 Zk, .int .i64 Zz, .string ⟨s.toArray⟩] from by
      rw [hW1]
      simpa using ((((HQ5.out.set 0 (.int .i64 kd)).set 1 (.int .i64 n)).set 2 (.int .i64 Zk)).set 3 (.int .i64 Zz)).set 4 (.string ⟨s.toArray⟩))
    have HBW1 := Lib.hid (show Below w.heap.size w W' from HBY.out.trans (hB1.below hgw HBY.out.size))
    have HKS := Lib.hid (show KdS base W' A1 (ks.map flat) from KdS.of_own (own_but HO4.out hB1 HQ5.out (by decide)) (by rw [List.length_map]; exact HKL.out) (kids_ne HA4.out HQ5.out hB1 HKZ.out))
    have HS := Lib.hid (St.start (H := Hh) (HWR.out.below HBW1.out) HKS.out (Nat.le_trans HBW.out HBW1.out.size) ⟨HXX.out.2.2, HH9.out⟩)
    have HF := Lib.hid (FrW.refl base W')
    clear hW1 hB1 z0 z1 z2 z3 z4 y0 y1 y2 y3 y4 HO4 HA4 HQ5
    have hxx := HXX.out
    have hh9 := HH9.out
    have hkd := HKD.out
    subst hkd
    obtain ⟨fl, hfl⟩ : ∃ fl, fl = (flatAll ks).length := ⟨_, rfl⟩
    have HFL := Lib.hid hfl
    rw [← hfl] at hxx ⊢
    clear hfl
    have q0 := HBX.out.cell 0
    have q1 := HBX.out.cell 1
    have q2 := HBX.out.cell 2
    have q3 := HBX.out.cell 3
    have q4 := HBX.out.cell 4
    simp only [List.getElem?_toArray, List.getElem?_cons_zero, List.getElem?_cons_succ] at q0 q1 q2 q3 q4
    have HCC := Lib.hid (HS.out.op_ 17 0 0 [] (fun m _ => by simp [okI, placeA, placeB, countA]) (by omega))
    go_wp2_with fail
    refine HCC.out.mono ?_
    rintro e W' ⟨P1, rfl, hX1, hL1, hP1, hs', hf'⟩
    replace HS := Lib.hid hs'
    replace HF := Lib.hid (HF.out.trans hf')
    clear hs' hf' HCC
    clear q0 q1 q2 q3 q4
    have HFIN := Lib.hid ((HS.out.done (sz := 8 * (1 + fl) - 3) (by omega)).of HBW1.out HBW.out)
    rw [HFL.out] at HFIN
    go_wp2_with fail
    go_returns
    exact HFIN.out
set_option maxRecDepth 100000 in
set_option maxHeartbeats 8000000 in
theorem dd27 (kd : Int) (hkd : kd = 27) (n : Int) (s : List UInt8) (ks : List Tr) (hkz : ∀ t ∈ ks, t.kind ≠ 0) (hs : s.length ≤ 2000) (hk1 : ks.length = 1) (hw0 : ∀ i (h : i < ks.length), DoOk ks[i]) : DoOk (.mk kd n s ks) := by
  have HKZ := Lib.hid hkz
  have HSL := Lib.hid hs
  have HKD := Lib.hid hkd
  have HK1 := Lib.hid hk1
  have HW0 := Lib.hid hw0
  clear hkz hs hkd hk1 hw0
  intro base g X now high v w h hv hbw hX hnow hhi
  rw [flat_size] at hX hnow ⊢
  have KC := Lib.hid (show ∀ W, SlRd W v (flat (.mk kd n s ks)) → Calls Tryd.prog 64 #[v] W (KidsRet (ks.map flat) W) from fun W h => by
    rw [← kidsL_flat kd n s ks]
    exact kids_any v _ W h (by rw [flat_size]; omega))
  have hH9 : now + heightT (.mk kd n s ks) ≤ 30000000 := by have := heightT_len (.mk kd n s ks); rw [flat_size] at this; omega
  have HV := Lib.hid hv.rd
  have HWR := Lib.hid h
  obtain ⟨A0, cp0, hve, hrd, hc0, hm0, -⟩ := hv.rd
  have h0 : 0 < (flat (.mk kd n s ks)).length := flat_pos _
  obtain ⟨b, o, rfl, hbl⟩ := hrd.addr h0
  have hx := hrd.at_ h0
  rw [show (flat (.mk kd n s ks))[0] = ⟨kd, n, ks.length, ((1 + (flatAll ks).length : Nat) : Int), s⟩ by simp [flat_mk]] at hx
  have d0 := hx.2 0 _ rfl
  have d1 := hx.2 1 _ rfl
  have d2 := hx.2 2 _ rfl
  have d3 := hx.2 3 _ rfl
  have d4 := hx.2 4 _ rfl
  simp only [Nat.zero_mul, Nat.add_zero] at d0 d1 d2 d3 d4
  subst hve
  obtain ⟨m, hml⟩ : ∃ m, m = (flat (.mk kd n s ks)).length := ⟨_, rfl⟩
  have hm1 : 0 < m := by omega
  rw [← hml] at KC HV ⊢
  have hkn := len_flatAll ks
  have HKN := Lib.hid hkn
  have HH9 := Lib.hid hH9
  have HXX := Lib.hid (And.intro hX (And.intro hnow hhi))
  have HBW := Lib.hid hbw
  obtain ⟨Hh, hHh⟩ : ∃ Hh, Hh = heightT (.mk kd n s ks) := ⟨_, rfl⟩
  rw [← hHh]
  rw [← hHh] at HH9
  have HHQ := Lib.hid hHh
  obtain ⟨Zk, hZk⟩ : ∃ Zk : Int, Zk = ks.length := ⟨_, rfl⟩
  obtain ⟨Zz, hZz⟩ : ∃ Zz : Int, Zz = ((1 + (flatAll ks).length : Nat) : Int) := ⟨_, rfl⟩
  rw [← hZk] at d2
  rw [← hZz] at d3
  have HZK := Lib.hid hZk
  obtain ⟨kl, hkl⟩ : ∃ kl, kl = ks.length := ⟨_, rfl⟩
  have HKL := Lib.hid hkl
  have HZZ := Lib.hid hZz
  clear hx hrd hc0 hm0 hkn hml h0 hv h hH9 hX hnow hhi hbw hHh hZk hZz hkl
  go_enter Tryd.func33, Tryd.ntmps33
  go_upto_region 0 with (fail)
  apply wp_region_relA 6 [eqT _, eqT _, eqT (.agg #[.int .i64 kd, .int .i64 n, .int .i64 Zk, .int .i64 Zz, .string ⟨s.toArray⟩]), eqT _, kidsG w.heap.size kl (ks.map flat), newG 98 #[.int .i64 0, .int .i64 0, .int .i64 0, .int .i64 0, .string ⟨#[]⟩] w.heap.size] (by kernel_rfl) (by kernel_rfl) (by kernel_rfl) rfl
  focus
    refine ⟨?_, ?_⟩
    focus
      unfold opGoal
      rw [if_pos (by kernel_rfl)]
      intro x hb hd K hk
      clear hd
      go_wp2_with fail
      exact hk _ _ rfl trivial (Below.refl _ _)
    rintro _ rfl
    simp only [Act.put, List.setIfInBounds_toArray, List.set_cons_succ, List.set_cons_zero]
    refine ⟨?_, ?_⟩
    focus
      unfold opGoal
      rw [if_pos (by kernel_rfl)]
      intro x hb hd K hk
      clear hd
      go_wp2_with fail
      exact hk _ _ rfl trivial (Below.refl _ _)
    rintro _ rfl
    simp only [Act.put, List.setIfInBounds_toArray, List.set_cons_succ, List.set_cons_zero]
    refine ⟨?_, ?_⟩
    focus
      unfold opGoal
      rw [if_pos (by kernel_rfl)]
      intro x hb hd K hk
      clear hd
      have l0 := cell_keep hb d0
      have l1 := cell_keep hb d1
      have l2 := cell_keep hb d2
      have l3 := cell_keep hb d3
      have l4 := cell_keep hb d4
      go_wp2_with fail
      exact hk _ _ rfl trivial (Below.refl _ _)
    rintro _ rfl
    simp only [Act.put, List.setIfInBounds_toArray, List.set_cons_succ, List.set_cons_zero]
    refine ⟨?_, ?_⟩
    focus
      unfold opGoal
      rw [if_pos (by kernel_rfl)]
      intro x hb hd K hk
      clear hd
      go_wp2_with fail
      exact hk _ _ rfl trivial (Below.refl _ _)
    rintro _ rfl
    simp only [Act.put, List.setIfInBounds_toArray, List.set_cons_succ, List.set_cons_zero]
    refine ⟨?_, ?_⟩
    focus
      unfold opGoal
      rw [if_pos (by kernel_rfl)]
      intro x hb hd K hk
      clear hd
      have hsz := hb.size
      have HC := Lib.hid (KC.out x (HV.out.below hb))
      go_wp2_with fail
      refine HC.out.mono ?_
      rintro e x' ⟨A1, c1, vs, rfl, ho, ha, hb'⟩
      rw [List.length_map, ← HKL.out] at ho ⊢
      obtain ⟨A', c', he, hnc, -⟩ := own_form ho
      injection he with he1 _ he3
      subst he1 he3
      exact hk _ _ ⟨_, _, rfl⟩ ⟨A1, c1, vs, rfl, hnc, own_mono ho hsz, ha.mono hsz⟩ hb'
    rintro _ ⟨A1, c1, rfl⟩
    simp only [Act.put, List.setIfInBounds_toArray, List.set_cons_succ, List.set_cons_zero]
    refine ⟨?_, ?_⟩
    focus
      unfold opGoal
      rw [if_pos (by kernel_rfl)]
      intro x hb hd K hk
      clear hd
      go_wp2_with fail
      refine hk _ _ ⟨_, rfl⟩ ?_ ((Below.refl _ _).alloc (Nat.le_refl _) _)
      intro g' hg
      injection hg with hg
      injection hg with hg
      injection hg with hg
      subst hg
      exact ⟨Blk.new x _ _, hb.size⟩
    rintro _ ⟨gx, rfl⟩
    simp only [Act.put, List.setIfInBounds_toArray, List.set_cons_succ, List.set_cons_zero]
    intro y hby hf
    simp only [List.drop_succ_cons, List.drop_zero]
    have hk4 := hf 4 (kidsG w.heap.size kl (ks.map flat)) (.slice A1 kl c1) (by kernel_rfl) (by kernel_rfl)
    obtain ⟨hg5, hgw⟩ := (hf 5 (newG 98 #[.int .i64 0, .int .i64 0, .int .i64 0, .int .i64 0, .string ⟨#[]⟩] w.heap.size) (.pointer (some ⟨gx, 0, none⟩)) (by kernel_rfl) (by kernel_rfl)) gx rfl
    obtain ⟨_, _, vs4, he4, hcl, ho4, ha4⟩ := hk4
    injection he4 with he4 _ he5
    subst he4 he5
    have z0 := hg5.cell 0
    have z1 := hg5.cell 1
    have z2 := hg5.cell 2
    have z3 := hg5.cell 3
    have z4 := hg5.cell 4
    have y0 := hg5.frozen 0
    have y1 := hg5.frozen 1
    have y2 := hg5.frozen 2
    have y3 := hg5.frozen 3
    have y4 := hg5.frozen 4
    simp only [List.getElem?_toArray, List.getElem?_cons_zero, List.getElem?_cons_succ] at z0 z1 z2 z3 z4
    clear hf KC d0 d1 d2 d3 d4 hbl hm1
    have HQ5 := Lib.hid hg5
    have HO4 := Lib.hid ho4
    have HA4 := Lib.hid ha4
    have HBY := Lib.hid hby
    clear hg5 ho4 ha4 hby
    go_upto_region 1 with (fail)
    obtain ⟨W', hW1⟩ : ∃ W', W' = (((((y.setCell ⟨gx, 0, none⟩ (.int .i64 kd)).setCell ⟨gx, 1, none⟩ (.int .i64 n)).setCell ⟨gx, 2, none⟩ (.int .i64 Zk)).setCell ⟨gx, 3, none⟩ (.int .i64 Zz)).setCell ⟨gx, 4, none⟩ (.string ⟨s.toArray⟩)) := ⟨_, rfl⟩
    rw [← hW1]
    have hB1 : But gx y W' := by
      rw [hW1]
      exact ((((But.set y 0 _).trans (But.set _ 1 _)).trans (But.set _ 2 _)).trans (But.set _ 3 _)).trans (But.set _ 4 _)
    have HBX := Lib.hid (show Blk W' gx 98 #[.int .i64 kd, .int .i64 n, .int .i64 Zk, .int .i64 Zz, .string ⟨s.toArray⟩] from by
      rw [hW1]
      simpa using ((((HQ5.out.set 0 (.int .i64 kd)).set 1 (.int .i64 n)).set 2 (.int .i64 Zk)).set 3 (.int .i64 Zz)).set 4 (.string ⟨s.toArray⟩))
    have HBW1 := Lib.hid (show Below w.heap.size w W' from HBY.out.trans (hB1.below hgw HBY.out.size))
    have HKS := Lib.hid (show KdS base W' A1 (ks.map flat) from KdS.of_own (own_but HO4.out hB1 HQ5.out (by decide)) (by rw [List.length_map]; exact HKL.out) (kids_ne HA4.out HQ5.out hB1 HKZ.out))
    have HS := Lib.hid (St.start (H := Hh) (HWR.out.below HBW1.out) HKS.out (Nat.le_trans HBW.out HBW1.out.size) ⟨HXX.out.2.2, HH9.out⟩)
    have HF := Lib.hid (FrW.refl base W')
    clear hW1 hB1 z0 z1 z2 z3 z4 y0 y1 y2 y3 y4 HO4 HA4 HQ5
    have hxx := HXX.out
    have hh9 := HH9.out
    have hkd := HKD.out
    subst hkd
    obtain ⟨t0, rfl⟩ : ∃ t0, ks = [t0] := by
      match ks, HK1.out with
      | [t0], _ => exact ⟨t0, rfl⟩
    have hT0 := HW0.out 0 (by simp)
    simp only [List.getElem_cons_zero, List.getElem_cons_succ] at hT0
    have hH0 : heightT t0 ≤ Hh := by
      have := kid_h 27 n s [t0] 0 (by simp)
      rw [HHQ.out]
      simp only [List.getElem_cons_zero, List.getElem_cons_succ] at this
      omega
    have hp0 := flat_pos t0
    obtain ⟨kb, ko, _, rfl, -⟩ := HKS.out.at_ (k := 0) (by simp)
    obtain ⟨fl, hfl⟩ : ∃ fl, fl = (flatAll [t0]).length := ⟨_, rfl⟩
    rw [← hfl] at hxx ⊢
    have hfl0 : fl = (flat t0).length := by rw [hfl]; (simp only [flatAll_cons, flatAll_nil, List.append_nil, List.length_append] <;> omega)
    have hkl1 : kl = 1 := HKL.out
    have HFL := Lib.hid hfl
    clear hfl
    subst hkl1
    have q0 := HBX.out.cell 0
    have q1 := HBX.out.cell 1
    have q2 := HBX.out.cell 2
    have q3 := HBX.out.cell 3
    have q4 := HBX.out.cell 4
    simp only [List.getElem?_toArray, List.getElem?_cons_zero, List.getElem?_cons_succ] at q0 q1 q2 q3 q4
    obtain ⟨Av, nv, cv, hkc, hcc⟩ := (HS.out.do_ (k := 0) hT0 (by simp) rfl (by omega) (by omega) (by omega))
    have HCC := Lib.hid hcc
    clear hcc
    first | (simp only [Nat.add_zero] at hkc) | skip
    go_wp2_with fail
    refine HCC.out.mono ?_
    rintro e W' ⟨rfl, hs', hf'⟩
    replace HS := Lib.hid hs'
    replace HF := Lib.hid (HF.out.trans hf')
    clear hs' hf' HCC hkc
    clear q0 q1 q2 q3 q4
    have HCC := Lib.hid (HS.out.op_ 36 0 0 [] (fun m _ => by simp [okI, placeA, placeB, countA]) (by omega))
    go_wp2_with fail
    refine HCC.out.mono ?_
    rintro e W' ⟨P1, rfl, hX1, hL1, hP1, hs', hf'⟩
    replace HS := Lib.hid hs'
    replace HF := Lib.hid (HF.out.trans hf')
    clear hs' hf' HCC
    have HFIN := Lib.hid ((HS.out.done (sz := 8 * (1 + fl) - 3) (by omega)).of HBW1.out HBW.out)
    rw [HFL.out] at HFIN
    go_wp2_with fail
    go_returns
    exact HFIN.out
set_option maxRecDepth 100000 in
set_option maxHeartbeats 8000000 in
theorem dd25 (kd : Int) (hkd : kd = 25) (n : Int) (s : List UInt8) (ks : List Tr) (hkz : ∀ t ∈ ks, t.kind ≠ 0) (hs : s.length ≤ 2000) (hk1 : ks.length = 2) (hw0 : ∀ i (h : i < ks.length), DoOk ks[i]) : DoOk (.mk kd n s ks) := by
  have HKZ := Lib.hid hkz
  have HSL := Lib.hid hs
  have HKD := Lib.hid hkd
  have HK1 := Lib.hid hk1
  have HW0 := Lib.hid hw0
  clear hkz hs hkd hk1 hw0
  intro base g X now high v w h hv hbw hX hnow hhi
  rw [flat_size] at hX hnow ⊢
  have KC := Lib.hid (show ∀ W, SlRd W v (flat (.mk kd n s ks)) → Calls Tryd.prog 64 #[v] W (KidsRet (ks.map flat) W) from fun W h => by
    rw [← kidsL_flat kd n s ks]
    exact kids_any v _ W h (by rw [flat_size]; omega))
  have hH9 : now + heightT (.mk kd n s ks) ≤ 30000000 := by have := heightT_len (.mk kd n s ks); rw [flat_size] at this; omega
  have HV := Lib.hid hv.rd
  have HWR := Lib.hid h
  obtain ⟨A0, cp0, hve, hrd, hc0, hm0, -⟩ := hv.rd
  have h0 : 0 < (flat (.mk kd n s ks)).length := flat_pos _
  obtain ⟨b, o, rfl, hbl⟩ := hrd.addr h0
  have hx := hrd.at_ h0
  rw [show (flat (.mk kd n s ks))[0] = ⟨kd, n, ks.length, ((1 + (flatAll ks).length : Nat) : Int), s⟩ by simp [flat_mk]] at hx
  have d0 := hx.2 0 _ rfl
  have d1 := hx.2 1 _ rfl
  have d2 := hx.2 2 _ rfl
  have d3 := hx.2 3 _ rfl
  have d4 := hx.2 4 _ rfl
  simp only [Nat.zero_mul, Nat.add_zero] at d0 d1 d2 d3 d4
  subst hve
  obtain ⟨m, hml⟩ : ∃ m, m = (flat (.mk kd n s ks)).length := ⟨_, rfl⟩
  have hm1 : 0 < m := by omega
  rw [← hml] at KC HV ⊢
  have hkn := len_flatAll ks
  have HKN := Lib.hid hkn
  have HH9 := Lib.hid hH9
  have HXX := Lib.hid (And.intro hX (And.intro hnow hhi))
  have HBW := Lib.hid hbw
  obtain ⟨Hh, hHh⟩ : ∃ Hh, Hh = heightT (.mk kd n s ks) := ⟨_, rfl⟩
  rw [← hHh]
  rw [← hHh] at HH9
  have HHQ := Lib.hid hHh
  obtain ⟨Zk, hZk⟩ : ∃ Zk : Int, Zk = ks.length := ⟨_, rfl⟩
  obtain ⟨Zz, hZz⟩ : ∃ Zz : Int, Zz = ((1 + (flatAll ks).length : Nat) : Int) := ⟨_, rfl⟩
  rw [← hZk] at d2
  rw [← hZz] at d3
  have HZK := Lib.hid hZk
  obtain ⟨kl, hkl⟩ : ∃ kl, kl = ks.length := ⟨_, rfl⟩
  have HKL := Lib.hid hkl
  have HZZ := Lib.hid hZz
  clear hx hrd hc0 hm0 hkn hml h0 hv h hH9 hX hnow hhi hbw hHh hZk hZz hkl
  go_enter Tryd.func33, Tryd.ntmps33
  go_upto_region 0 with (fail)
  apply wp_region_relA 6 [eqT _, eqT _, eqT (.agg #[.int .i64 kd, .int .i64 n, .int .i64 Zk, .int .i64 Zz, .string ⟨s.toArray⟩]), eqT _, kidsG w.heap.size kl (ks.map flat), newG 98 #[.int .i64 0, .int .i64 0, .int .i64 0, .int .i64 0, .string ⟨#[]⟩] w.heap.size] (by kernel_rfl) (by kernel_rfl) (by kernel_rfl) rfl
  focus
    refine ⟨?_, ?_⟩
    focus
      unfold opGoal
      rw [if_pos (by kernel_rfl)]
      intro x hb hd K hk
      clear hd
      go_wp2_with fail
      exact hk _ _ rfl trivial (Below.refl _ _)
    rintro _ rfl
    simp only [Act.put, List.setIfInBounds_toArray, List.set_cons_succ, List.set_cons_zero]
    refine ⟨?_, ?_⟩
    focus
      unfold opGoal
      rw [if_pos (by kernel_rfl)]
      intro x hb hd K hk
      clear hd
      go_wp2_with fail
      exact hk _ _ rfl trivial (Below.refl _ _)
    rintro _ rfl
    simp only [Act.put, List.setIfInBounds_toArray, List.set_cons_succ, List.set_cons_zero]
    refine ⟨?_, ?_⟩
    focus
      unfold opGoal
      rw [if_pos (by kernel_rfl)]
      intro x hb hd K hk
      clear hd
      have l0 := cell_keep hb d0
      have l1 := cell_keep hb d1
      have l2 := cell_keep hb d2
      have l3 := cell_keep hb d3
      have l4 := cell_keep hb d4
      go_wp2_with fail
      exact hk _ _ rfl trivial (Below.refl _ _)
    rintro _ rfl
    simp only [Act.put, List.setIfInBounds_toArray, List.set_cons_succ, List.set_cons_zero]
    refine ⟨?_, ?_⟩
    focus
      unfold opGoal
      rw [if_pos (by kernel_rfl)]
      intro x hb hd K hk
      clear hd
      go_wp2_with fail
      exact hk _ _ rfl trivial (Below.refl _ _)
    rintro _ rfl
    simp only [Act.put, List.setIfInBounds_toArray, List.set_cons_succ, List.set_cons_zero]
    refine ⟨?_, ?_⟩
    focus
      unfold opGoal
      rw [if_pos (by kernel_rfl)]
      intro x hb hd K hk
      clear hd
      have hsz := hb.size
      have HC := Lib.hid (KC.out x (HV.out.below hb))
      go_wp2_with fail
      refine HC.out.mono ?_
      rintro e x' ⟨A1, c1, vs, rfl, ho, ha, hb'⟩
      rw [List.length_map, ← HKL.out] at ho ⊢
      obtain ⟨A', c', he, hnc, -⟩ := own_form ho
      injection he with he1 _ he3
      subst he1 he3
      exact hk _ _ ⟨_, _, rfl⟩ ⟨A1, c1, vs, rfl, hnc, own_mono ho hsz, ha.mono hsz⟩ hb'
    rintro _ ⟨A1, c1, rfl⟩
    simp only [Act.put, List.setIfInBounds_toArray, List.set_cons_succ, List.set_cons_zero]
    refine ⟨?_, ?_⟩
    focus
      unfold opGoal
      rw [if_pos (by kernel_rfl)]
      intro x hb hd K hk
      clear hd
      go_wp2_with fail
      refine hk _ _ ⟨_, rfl⟩ ?_ ((Below.refl _ _).alloc (Nat.le_refl _) _)
      intro g' hg
      injection hg with hg
      injection hg with hg
      injection hg with hg
      subst hg
      exact ⟨Blk.new x _ _, hb.size⟩
    rintro _ ⟨gx, rfl⟩
    simp only [Act.put, List.setIfInBounds_toArray, List.set_cons_succ, List.set_cons_zero]
    intro y hby hf
    simp only [List.drop_succ_cons, List.drop_zero]
    have hk4 := hf 4 (kidsG w.heap.size kl (ks.map flat)) (.slice A1 kl c1) (by kernel_rfl) (by kernel_rfl)
    obtain ⟨hg5, hgw⟩ := (hf 5 (newG 98 #[.int .i64 0, .int .i64 0, .int .i64 0, .int .i64 0, .string ⟨#[]⟩] w.heap.size) (.pointer (some ⟨gx, 0, none⟩)) (by kernel_rfl) (by kernel_rfl)) gx rfl
    obtain ⟨_, _, vs4, he4, hcl, ho4, ha4⟩ := hk4
    injection he4 with he4 _ he5
    subst he4 he5
    have z0 := hg5.cell 0
    have z1 := hg5.cell 1
    have z2 := hg5.cell 2
    have z3 := hg5.cell 3
    have z4 := hg5.cell 4
    have y0 := hg5.frozen 0
    have y1 := hg5.frozen 1
    have y2 := hg5.frozen 2
    have y3 := hg5.frozen 3
    have y4 := hg5.frozen 4
    simp only [List.getElem?_toArray, List.getElem?_cons_zero, List.getElem?_cons_succ] at z0 z1 z2 z3 z4
    clear hf KC d0 d1 d2 d3 d4 hbl hm1
    have HQ5 := Lib.hid hg5
    have HO4 := Lib.hid ho4
    have HA4 := Lib.hid ha4
    have HBY := Lib.hid hby
    clear hg5 ho4 ha4 hby
    go_upto_region 1 with (fail)
    obtain ⟨W', hW1⟩ : ∃ W', W' = (((((y.setCell ⟨gx, 0, none⟩ (.int .i64 kd)).setCell ⟨gx, 1, none⟩ (.int .i64 n)).setCell ⟨gx, 2, none⟩ (.int .i64 Zk)).setCell ⟨gx, 3, none⟩ (.int .i64 Zz)).setCell ⟨gx, 4, none⟩ (.string ⟨s.toArray⟩)) := ⟨_, rfl⟩
    rw [← hW1]
    have hB1 : But gx y W' := by
      rw [hW1]
      exact ((((But.set y 0 _).trans (But.set _ 1 _)).trans (But.set _ 2 _)).trans (But.set _ 3 _)).trans (But.set _ 4 _)
    have HBX := Lib.hid (show Blk W' gx 98 #[.int .i64 kd, .int .i64 n, .int .i64 Zk, .int .i64 Zz, .string ⟨s.toArray⟩] from by
      rw [hW1]
      simpa using ((((HQ5.out.set 0 (.int .i64 kd)).set 1 (.int .i64 n)).set 2 (.int .i64 Zk)).set 3 (.int .i64 Zz)).set 4 (.string ⟨s.toArray⟩))
    have HBW1 := Lib.hid (show Below w.heap.size w W' from HBY.out.trans (hB1.below hgw HBY.out.size))
    have HKS := Lib.hid (show KdS base W' A1 (ks.map flat) from KdS.of_own (own_but HO4.out hB1 HQ5.out (by decide)) (by rw [List.length_map]; exact HKL.out) (kids_ne HA4.out HQ5.out hB1 HKZ.out))
    have HS := Lib.hid (St.start (H := Hh) (HWR.out.below HBW1.out) HKS.out (Nat.le_trans HBW.out HBW1.out.size) ⟨HXX.out.2.2, HH9.out⟩)
    have HF := Lib.hid (FrW.refl base W')
    clear hW1 hB1 z0 z1 z2 z3 z4 y0 y1 y2 y3 y4 HO4 HA4 HQ5
    have hxx := HXX.out
    have hh9 := HH9.out
    have hkd := HKD.out
    subst hkd
    obtain ⟨t0, t1, rfl⟩ : ∃ t0 t1, ks = [t0, t1] := by
      match ks, HK1.out with
      | [t0, t1], _ => exact ⟨t0, t1, rfl⟩
    have hT0 := HW0.out 0 (by simp)
    simp only [List.getElem_cons_zero, List.getElem_cons_succ] at hT0
    have hH0 : heightT t0 ≤ Hh := by
      have := kid_h 25 n s [t0, t1] 0 (by simp)
      rw [HHQ.out]
      simp only [List.getElem_cons_zero, List.getElem_cons_succ] at this
      omega
    have hp0 := flat_pos t0
    have hT1 := HW0.out 1 (by simp)
    simp only [List.getElem_cons_zero, List.getElem_cons_succ] at hT1
    have hH1 : heightT t1 ≤ Hh := by
      have := kid_h 25 n s [t0, t1] 1 (by simp)
      rw [HHQ.out]
      simp only [List.getElem_cons_zero, List.getElem_cons_succ] at this
      omega
    have hp1 := flat_pos t1
    obtain ⟨kb, ko, _, rfl, -⟩ := HKS.out.at_ (k := 0) (by simp)
    obtain ⟨fl, hfl⟩ : ∃ fl, fl = (flatAll [t0, t1]).length := ⟨_, rfl⟩
    rw [← hfl] at hxx ⊢
    have hfl0 : fl = (flat t0).length + (flat t1).length := by rw [hfl]; (simp only [flatAll_cons, flatAll_nil, List.append_nil, List.length_append] <;> omega)
    have hkl1 : kl = 2 := HKL.out
    have HFL := Lib.hid hfl
    clear hfl
    subst hkl1
    have q0 := HBX.out.cell 0
    have q1 := HBX.out.cell 1
    have q2 := HBX.out.cell 2
    have q3 := HBX.out.cell 3
    have q4 := HBX.out.cell 4
    simp only [List.getElem?_toArray, List.getElem?_cons_zero, List.getElem?_cons_succ] at q0 q1 q2 q3 q4
    obtain ⟨Av, nv, cv, hkc, hcc⟩ := (HS.out.do_ (k := 0) hT0 (by simp) rfl (by omega) (by omega) (by omega))
    have HCC := Lib.hid hcc
    clear hcc
    first | (simp only [Nat.add_zero] at hkc) | skip
    go_wp2_with fail
    refine HCC.out.mono ?_
    rintro e W' ⟨rfl, hs', hf'⟩
    replace HS := Lib.hid hs'
    replace HF := Lib.hid (HF.out.trans hf')
    clear hs' hf' HCC hkc
    clear q0 q1 q2 q3 q4
    have q0 := (HBX.out.others HF.out.others (by decide)).cell 0
    simp only [List.getElem?_toArray, List.getElem?_cons_zero, List.getElem?_cons_succ] at q0
    have HCC := Lib.hid (HS.out.op_ 19 0 0 [] (fun m _ => by simp [okI, placeA, placeB, countA]; omega) (by omega))
    go_wp2_with fail
    refine HCC.out.mono ?_
    rintro e W' ⟨P1, rfl, hX1, hL1, hP1, hs', hf'⟩
    replace HS := Lib.hid hs'
    replace HF := Lib.hid (HF.out.trans hf')
    clear hs' hf' HCC
    clear q0
    obtain ⟨Av, nv, cv, hkc, hcc⟩ := (HS.out.do_ (k := 1) hT1 (by simp) rfl (by omega) (by omega) (by omega))
    have HCC := Lib.hid hcc
    clear hcc
    first | (simp only [Nat.add_zero] at hkc) | skip
    go_wp2_with fail
    refine HCC.out.mono ?_
    rintro e W' ⟨rfl, hs', hf'⟩
    replace HS := Lib.hid hs'
    replace HF := Lib.hid (HF.out.trans hf')
    clear hs' hf' HCC hkc
    obtain ⟨ga, gc, gn, gP, gn8, l0, hhere, hst⟩ := HS.out.fill (P := P1) (by omega) (by omega) (by omega)
    have HHE := Lib.hid hhere
    have HST := Lib.hid hst
    clear hhere hst
    go_upto_region 28 with (fail)
    refine wp_region_mid 12 _ rfl rfl (by kernel_rfl) (by kernel_rfl) (by kernel_rfl) ?_
    apply EqGo.run
    focus
      kernel_rfl
    focus
      intro x K hK
      go_wp2_with fail
      first | exact hK x (Below.refl _ _) | exact Below.refl _ _
    simp only [Act.put, List.setIfInBounds_toArray, List.set_cons_succ, List.set_cons_zero]
    apply EqGo.run
    focus
      kernel_rfl
    focus
      intro x K hK
      go_wp2_with fail
      first | exact hK x (Below.refl _ _) | exact Below.refl _ _
    simp only [Act.put, List.setIfInBounds_toArray, List.set_cons_succ, List.set_cons_zero]
    apply EqGo.run
    focus
      kernel_rfl
    focus
      intro x K hK
      go_wp2_with fail
      first | exact hK x (Below.refl _ _) | exact Below.refl _ _
    simp only [Act.put, List.setIfInBounds_toArray, List.set_cons_succ, List.set_cons_zero]
    apply EqGo.run
    focus
      kernel_rfl
    focus
      intro x K hK
      go_wp2_with fail
      first | exact hK x (Below.refl _ _) | exact Below.refl _ _
    simp only [Act.put, List.setIfInBounds_toArray, List.set_cons_succ, List.set_cons_zero]
    apply EqGo.run
    focus
      kernel_rfl
    focus
      intro x K hK
      go_wp2_with fail
      first | exact hK x (Below.refl _ _) | exact Below.refl _ _
    simp only [Act.put, List.setIfInBounds_toArray, List.set_cons_succ, List.set_cons_zero]
    apply EqGo.run
    focus
      kernel_rfl
    focus
      intro x K hK
      go_wp2_with fail
      first | exact hK x (Below.refl _ _) | exact Below.refl _ _
    simp only [Act.put, List.setIfInBounds_toArray, List.set_cons_succ, List.set_cons_zero]
    apply EqGo.run
    focus
      kernel_rfl
    focus
      intro x K hK
      go_wp2_with fail
      first | exact hK x (Below.refl _ _) | exact Below.refl _ _
    simp only [Act.put, List.setIfInBounds_toArray, List.set_cons_succ, List.set_cons_zero]
    apply EqGo.run
    focus
      kernel_rfl
    focus
      intro x K hK
      go_wp2_with fail
      first | exact hK x (Below.refl _ _) | exact Below.refl _ _
    simp only [Act.put, List.setIfInBounds_toArray, List.set_cons_succ, List.set_cons_zero]
    apply EqGo.run
    focus
      kernel_rfl
    focus
      intro x K hK
      go_wp2_with fail
      first | exact hK x (Below.refl _ _) | exact Below.refl _ _
    simp only [Act.put, List.setIfInBounds_toArray, List.set_cons_succ, List.set_cons_zero]
    apply EqGo.run
    focus
      kernel_rfl
    focus
      intro x K hK
      go_wp2_with fail
      refine (Hid.out HHE x.val x.below).mono ?_
      rintro e x' ⟨rfl, hb'⟩
      exact hK ⟨x', x.below.trans (hb'.mono x.below.size)⟩ hb'
    simp only [Act.put, List.setIfInBounds_toArray, List.set_cons_succ, List.set_cons_zero]
    apply EqGo.run
    focus
      kernel_rfl
    focus
      intro x K hK
      go_wp2_with fail
      first | exact hK x (Below.refl _ _) | exact Below.refl _ _
    simp only [Act.put, List.setIfInBounds_toArray, List.set_cons_succ, List.set_cons_zero]
    apply EqGo.run
    focus
      kernel_rfl
    focus
      intro x K hK
      go_wp2_with fail
      first | exact hK x (Below.refl _ _) | exact Below.refl _ _
    simp only [Act.put, List.setIfInBounds_toArray, List.set_cons_succ, List.set_cons_zero]
    intro z K hK
    obtain ⟨⟨u1, hu1⟩, fu1, ⟨u2, hu2⟩, fu2, hsA, hfA, hsB, hfB⟩ := HST.out z.val z.below
    replace HF := Lib.hid (HF.out.trans hfA)
    replace HS := Lib.hid hsA
    clear hsA hfA hsB hfB HST HHE l0
    go_wp2_with fail
    refine hK undef _ ?_
    clear hK K hu1 fu1 hu2 fu2 u1 u2
    intro z2
    replace HF := Lib.hid (HF.out.trans (FrW.of z2.below HS.out.bw))
    replace HS := Lib.hid (HS.out.below z2.below)
    generalize z2.val = W' at *
    clear z2 gP gn8
    have HFIN := Lib.hid ((HS.out.done (sz := 8 * (1 + fl) - 3) (by omega)).of HBW1.out HBW.out)
    rw [HFL.out] at HFIN
    go_wp2_with fail
    go_returns
    exact HFIN.out
set_option maxRecDepth 100000 in
set_option maxHeartbeats 8000000 in
theorem dd26 (kd : Int) (hkd : kd = 26) (n : Int) (s : List UInt8) (ks : List Tr) (hkz : ∀ t ∈ ks, t.kind ≠ 0) (hs : s.length ≤ 2000) (hk1 : ks.length = 2) (hw0 : ∀ i (h : i < ks.length), DoOk ks[i]) : DoOk (.mk kd n s ks) := by
  have HKZ := Lib.hid hkz
  have HSL := Lib.hid hs
  have HKD := Lib.hid hkd
  have HK1 := Lib.hid hk1
  have HW0 := Lib.hid hw0
  clear hkz hs hkd hk1 hw0
  intro base g X now high v w h hv hbw hX hnow hhi
  rw [flat_size] at hX hnow ⊢
  have KC := Lib.hid (show ∀ W, SlRd W v (flat (.mk kd n s ks)) → Calls Tryd.prog 64 #[v] W (KidsRet (ks.map flat) W) from fun W h => by
    rw [← kidsL_flat kd n s ks]
    exact kids_any v _ W h (by rw [flat_size]; omega))
  have hH9 : now + heightT (.mk kd n s ks) ≤ 30000000 := by have := heightT_len (.mk kd n s ks); rw [flat_size] at this; omega
  have HV := Lib.hid hv.rd
  have HWR := Lib.hid h
  obtain ⟨A0, cp0, hve, hrd, hc0, hm0, -⟩ := hv.rd
  have h0 : 0 < (flat (.mk kd n s ks)).length := flat_pos _
  obtain ⟨b, o, rfl, hbl⟩ := hrd.addr h0
  have hx := hrd.at_ h0
  rw [show (flat (.mk kd n s ks))[0] = ⟨kd, n, ks.length, ((1 + (flatAll ks).length : Nat) : Int), s⟩ by simp [flat_mk]] at hx
  have d0 := hx.2 0 _ rfl
  have d1 := hx.2 1 _ rfl
  have d2 := hx.2 2 _ rfl
  have d3 := hx.2 3 _ rfl
  have d4 := hx.2 4 _ rfl
  simp only [Nat.zero_mul, Nat.add_zero] at d0 d1 d2 d3 d4
  subst hve
  obtain ⟨m, hml⟩ : ∃ m, m = (flat (.mk kd n s ks)).length := ⟨_, rfl⟩
  have hm1 : 0 < m := by omega
  rw [← hml] at KC HV ⊢
  have hkn := len_flatAll ks
  have HKN := Lib.hid hkn
  have HH9 := Lib.hid hH9
  have HXX := Lib.hid (And.intro hX (And.intro hnow hhi))
  have HBW := Lib.hid hbw
  obtain ⟨Hh, hHh⟩ : ∃ Hh, Hh = heightT (.mk kd n s ks) := ⟨_, rfl⟩
  rw [← hHh]
  rw [← hHh] at HH9
  have HHQ := Lib.hid hHh
  obtain ⟨Zk, hZk⟩ : ∃ Zk : Int, Zk = ks.length := ⟨_, rfl⟩
  obtain ⟨Zz, hZz⟩ : ∃ Zz : Int, Zz = ((1 + (flatAll ks).length : Nat) : Int) := ⟨_, rfl⟩
  rw [← hZk] at d2
  rw [← hZz] at d3
  have HZK := Lib.hid hZk
  obtain ⟨kl, hkl⟩ : ∃ kl, kl = ks.length := ⟨_, rfl⟩
  have HKL := Lib.hid hkl
  have HZZ := Lib.hid hZz
  clear hx hrd hc0 hm0 hkn hml h0 hv h hH9 hX hnow hhi hbw hHh hZk hZz hkl
  go_enter Tryd.func33, Tryd.ntmps33
  go_upto_region 0 with (fail)
  apply wp_region_relA 6 [eqT _, eqT _, eqT (.agg #[.int .i64 kd, .int .i64 n, .int .i64 Zk, .int .i64 Zz, .string ⟨s.toArray⟩]), eqT _, kidsG w.heap.size kl (ks.map flat), newG 98 #[.int .i64 0, .int .i64 0, .int .i64 0, .int .i64 0, .string ⟨#[]⟩] w.heap.size] (by kernel_rfl) (by kernel_rfl) (by kernel_rfl) rfl
  focus
    refine ⟨?_, ?_⟩
    focus
      unfold opGoal
      rw [if_pos (by kernel_rfl)]
      intro x hb hd K hk
      clear hd
      go_wp2_with fail
      exact hk _ _ rfl trivial (Below.refl _ _)
    rintro _ rfl
    simp only [Act.put, List.setIfInBounds_toArray, List.set_cons_succ, List.set_cons_zero]
    refine ⟨?_, ?_⟩
    focus
      unfold opGoal
      rw [if_pos (by kernel_rfl)]
      intro x hb hd K hk
      clear hd
      go_wp2_with fail
      exact hk _ _ rfl trivial (Below.refl _ _)
    rintro _ rfl
    simp only [Act.put, List.setIfInBounds_toArray, List.set_cons_succ, List.set_cons_zero]
    refine ⟨?_, ?_⟩
    focus
      unfold opGoal
      rw [if_pos (by kernel_rfl)]
      intro x hb hd K hk
      clear hd
      have l0 := cell_keep hb d0
      have l1 := cell_keep hb d1
      have l2 := cell_keep hb d2
      have l3 := cell_keep hb d3
      have l4 := cell_keep hb d4
      go_wp2_with fail
      exact hk _ _ rfl trivial (Below.refl _ _)
    rintro _ rfl
    simp only [Act.put, List.setIfInBounds_toArray, List.set_cons_succ, List.set_cons_zero]
    refine ⟨?_, ?_⟩
    focus
      unfold opGoal
      rw [if_pos (by kernel_rfl)]
      intro x hb hd K hk
      clear hd
      go_wp2_with fail
      exact hk _ _ rfl trivial (Below.refl _ _)
    rintro _ rfl
    simp only [Act.put, List.setIfInBounds_toArray, List.set_cons_succ, List.set_cons_zero]
    refine ⟨?_, ?_⟩
    focus
      unfold opGoal
      rw [if_pos (by kernel_rfl)]
      intro x hb hd K hk
      clear hd
      have hsz := hb.size
      have HC := Lib.hid (KC.out x (HV.out.below hb))
      go_wp2_with fail
      refine HC.out.mono ?_
      rintro e x' ⟨A1, c1, vs, rfl, ho, ha, hb'⟩
      rw [List.length_map, ← HKL.out] at ho ⊢
      obtain ⟨A', c', he, hnc, -⟩ := own_form ho
      injection he with he1 _ he3
      subst he1 he3
      exact hk _ _ ⟨_, _, rfl⟩ ⟨A1, c1, vs, rfl, hnc, own_mono ho hsz, ha.mono hsz⟩ hb'
    rintro _ ⟨A1, c1, rfl⟩
    simp only [Act.put, List.setIfInBounds_toArray, List.set_cons_succ, List.set_cons_zero]
    refine ⟨?_, ?_⟩
    focus
      unfold opGoal
      rw [if_pos (by kernel_rfl)]
      intro x hb hd K hk
      clear hd
      go_wp2_with fail
      refine hk _ _ ⟨_, rfl⟩ ?_ ((Below.refl _ _).alloc (Nat.le_refl _) _)
      intro g' hg
      injection hg with hg
      injection hg with hg
      injection hg with hg
      subst hg
      exact ⟨Blk.new x _ _, hb.size⟩
    rintro _ ⟨gx, rfl⟩
    simp only [Act.put, List.setIfInBounds_toArray, List.set_cons_succ, List.set_cons_zero]
    intro y hby hf
    simp only [List.drop_succ_cons, List.drop_zero]
    have hk4 := hf 4 (kidsG w.heap.size kl (ks.map flat)) (.slice A1 kl c1) (by kernel_rfl) (by kernel_rfl)
    obtain ⟨hg5, hgw⟩ := (hf 5 (newG 98 #[.int .i64 0, .int .i64 0, .int .i64 0, .int .i64 0, .string ⟨#[]⟩] w.heap.size) (.pointer (some ⟨gx, 0, none⟩)) (by kernel_rfl) (by kernel_rfl)) gx rfl
    obtain ⟨_, _, vs4, he4, hcl, ho4, ha4⟩ := hk4
    injection he4 with he4 _ he5
    subst he4 he5
    have z0 := hg5.cell 0
    have z1 := hg5.cell 1
    have z2 := hg5.cell 2
    have z3 := hg5.cell 3
    have z4 := hg5.cell 4
    have y0 := hg5.frozen 0
    have y1 := hg5.frozen 1
    have y2 := hg5.frozen 2
    have y3 := hg5.frozen 3
    have y4 := hg5.frozen 4
    simp only [List.getElem?_toArray, List.getElem?_cons_zero, List.getElem?_cons_succ] at z0 z1 z2 z3 z4
    clear hf KC d0 d1 d2 d3 d4 hbl hm1
    have HQ5 := Lib.hid hg5
    have HO4 := Lib.hid ho4
    have HA4 := Lib.hid ha4
    have HBY := Lib.hid hby
    clear hg5 ho4 ha4 hby
    go_upto_region 1 with (fail)
    obtain ⟨W', hW1⟩ : ∃ W', W' = (((((y.setCell ⟨gx, 0, none⟩ (.int .i64 kd)).setCell ⟨gx, 1, none⟩ (.int .i64 n)).setCell ⟨gx, 2, none⟩ (.int .i64 Zk)).setCell ⟨gx, 3, none⟩ (.int .i64 Zz)).setCell ⟨gx, 4, none⟩ (.string ⟨s.toArray⟩)) := ⟨_, rfl⟩
    rw [← hW1]
    have hB1 : But gx y W' := by
      rw [hW1]
      exact ((((But.set y 0 _).trans (But.set _ 1 _)).trans (But.set _ 2 _)).trans (But.set _ 3 _)).trans (But.set _ 4 _)
    have HBX := Lib.hid (show Blk W' gx 98 #[.int .i64 kd, .int .i64 n, .int .i64 Zk, .int .i64 Zz, .string ⟨s.toArray⟩] from by
      rw [hW1]
      simpa using ((((HQ5.out.set 0 (.int .i64 kd)).set 1 (.int .i64 n)).set 2 (.int .i64 Zk)).set 3 (.int .i64 Zz)).set 4 (.string ⟨s.toArray⟩))
    have HBW1 := Lib.hid (show Below w.heap.size w W' from HBY.out.trans (hB1.below hgw HBY.out.size))
    have HKS := Lib.hid (show KdS base W' A1 (ks.map flat) from KdS.of_own (own_but HO4.out hB1 HQ5.out (by decide)) (by rw [List.length_map]; exact HKL.out) (kids_ne HA4.out HQ5.out hB1 HKZ.out))
    have HS := Lib.hid (St.start (H := Hh) (HWR.out.below HBW1.out) HKS.out (Nat.le_trans HBW.out HBW1.out.size) ⟨HXX.out.2.2, HH9.out⟩)
    have HF := Lib.hid (FrW.refl base W')
    clear hW1 hB1 z0 z1 z2 z3 z4 y0 y1 y2 y3 y4 HO4 HA4 HQ5
    have hxx := HXX.out
    have hh9 := HH9.out
    have hkd := HKD.out
    subst hkd
    obtain ⟨t0, t1, rfl⟩ : ∃ t0 t1, ks = [t0, t1] := by
      match ks, HK1.out with
      | [t0, t1], _ => exact ⟨t0, t1, rfl⟩
    have hT0 := HW0.out 0 (by simp)
    simp only [List.getElem_cons_zero, List.getElem_cons_succ] at hT0
    have hH0 : heightT t0 ≤ Hh := by
      have := kid_h 26 n s [t0, t1] 0 (by simp)
      rw [HHQ.out]
      simp only [List.getElem_cons_zero, List.getElem_cons_succ] at this
      omega
    have hp0 := flat_pos t0
    have hT1 := HW0.out 1 (by simp)
    simp only [List.getElem_cons_zero, List.getElem_cons_succ] at hT1
    have hH1 : heightT t1 ≤ Hh := by
      have := kid_h 26 n s [t0, t1] 1 (by simp)
      rw [HHQ.out]
      simp only [List.getElem_cons_zero, List.getElem_cons_succ] at this
      omega
    have hp1 := flat_pos t1
    obtain ⟨kb, ko, _, rfl, -⟩ := HKS.out.at_ (k := 0) (by simp)
    obtain ⟨fl, hfl⟩ : ∃ fl, fl = (flatAll [t0, t1]).length := ⟨_, rfl⟩
    rw [← hfl] at hxx ⊢
    have hfl0 : fl = (flat t0).length + (flat t1).length := by rw [hfl]; (simp only [flatAll_cons, flatAll_nil, List.append_nil, List.length_append] <;> omega)
    have hkl1 : kl = 2 := HKL.out
    have HFL := Lib.hid hfl
    clear hfl
    subst hkl1
    have q0 := HBX.out.cell 0
    have q1 := HBX.out.cell 1
    have q2 := HBX.out.cell 2
    have q3 := HBX.out.cell 3
    have q4 := HBX.out.cell 4
    simp only [List.getElem?_toArray, List.getElem?_cons_zero, List.getElem?_cons_succ] at q0 q1 q2 q3 q4
    obtain ⟨Av, nv, cv, hkc, hcc⟩ := (HS.out.do_ (k := 0) hT0 (by simp) rfl (by omega) (by omega) (by omega))
    have HCC := Lib.hid hcc
    clear hcc
    first | (simp only [Nat.add_zero] at hkc) | skip
    go_wp2_with fail
    refine HCC.out.mono ?_
    rintro e W' ⟨rfl, hs', hf'⟩
    replace HS := Lib.hid hs'
    replace HF := Lib.hid (HF.out.trans hf')
    clear hs' hf' HCC hkc
    clear q0 q1 q2 q3 q4
    have q0 := (HBX.out.others HF.out.others (by decide)).cell 0
    simp only [List.getElem?_toArray, List.getElem?_cons_zero, List.getElem?_cons_succ] at q0
    have HCC := Lib.hid (HS.out.op_ 20 0 0 [] (fun m _ => by simp [okI, placeA, placeB, countA]; omega) (by omega))
    go_wp2_with fail
    refine HCC.out.mono ?_
    rintro e W' ⟨P1, rfl, hX1, hL1, hP1, hs', hf'⟩
    replace HS := Lib.hid hs'
    replace HF := Lib.hid (HF.out.trans hf')
    clear hs' hf' HCC
    clear q0
    obtain ⟨Av, nv, cv, hkc, hcc⟩ := (HS.out.do_ (k := 1) hT1 (by simp) rfl (by omega) (by omega) (by omega))
    have HCC := Lib.hid hcc
    clear hcc
    first | (simp only [Nat.add_zero] at hkc) | skip
    go_wp2_with fail
    refine HCC.out.mono ?_
    rintro e W' ⟨rfl, hs', hf'⟩
    replace HS := Lib.hid hs'
    replace HF := Lib.hid (HF.out.trans hf')
    clear hs' hf' HCC hkc
    obtain ⟨ga, gc, gn, gP, gn8, l0, hhere, hst⟩ := HS.out.fill (P := P1) (by omega) (by omega) (by omega)
    have HHE := Lib.hid hhere
    have HST := Lib.hid hst
    clear hhere hst
    go_upto_region 28 with (fail)
    refine wp_region_mid 12 _ rfl rfl (by kernel_rfl) (by kernel_rfl) (by kernel_rfl) ?_
    apply EqGo.run
    focus
      kernel_rfl
    focus
      intro x K hK
      go_wp2_with fail
      first | exact hK x (Below.refl _ _) | exact Below.refl _ _
    simp only [Act.put, List.setIfInBounds_toArray, List.set_cons_succ, List.set_cons_zero]
    apply EqGo.run
    focus
      kernel_rfl
    focus
      intro x K hK
      go_wp2_with fail
      first | exact hK x (Below.refl _ _) | exact Below.refl _ _
    simp only [Act.put, List.setIfInBounds_toArray, List.set_cons_succ, List.set_cons_zero]
    apply EqGo.run
    focus
      kernel_rfl
    focus
      intro x K hK
      go_wp2_with fail
      first | exact hK x (Below.refl _ _) | exact Below.refl _ _
    simp only [Act.put, List.setIfInBounds_toArray, List.set_cons_succ, List.set_cons_zero]
    apply EqGo.run
    focus
      kernel_rfl
    focus
      intro x K hK
      go_wp2_with fail
      first | exact hK x (Below.refl _ _) | exact Below.refl _ _
    simp only [Act.put, List.setIfInBounds_toArray, List.set_cons_succ, List.set_cons_zero]
    apply EqGo.run
    focus
      kernel_rfl
    focus
      intro x K hK
      go_wp2_with fail
      first | exact hK x (Below.refl _ _) | exact Below.refl _ _
    simp only [Act.put, List.setIfInBounds_toArray, List.set_cons_succ, List.set_cons_zero]
    apply EqGo.run
    focus
      kernel_rfl
    focus
      intro x K hK
      go_wp2_with fail
      first | exact hK x (Below.refl _ _) | exact Below.refl _ _
    simp only [Act.put, List.setIfInBounds_toArray, List.set_cons_succ, List.set_cons_zero]
    apply EqGo.run
    focus
      kernel_rfl
    focus
      intro x K hK
      go_wp2_with fail
      first | exact hK x (Below.refl _ _) | exact Below.refl _ _
    simp only [Act.put, List.setIfInBounds_toArray, List.set_cons_succ, List.set_cons_zero]
    apply EqGo.run
    focus
      kernel_rfl
    focus
      intro x K hK
      go_wp2_with fail
      first | exact hK x (Below.refl _ _) | exact Below.refl _ _
    simp only [Act.put, List.setIfInBounds_toArray, List.set_cons_succ, List.set_cons_zero]
    apply EqGo.run
    focus
      kernel_rfl
    focus
      intro x K hK
      go_wp2_with fail
      first | exact hK x (Below.refl _ _) | exact Below.refl _ _
    simp only [Act.put, List.setIfInBounds_toArray, List.set_cons_succ, List.set_cons_zero]
    apply EqGo.run
    focus
      kernel_rfl
    focus
      intro x K hK
      go_wp2_with fail
      refine (Hid.out HHE x.val x.below).mono ?_
      rintro e x' ⟨rfl, hb'⟩
      exact hK ⟨x', x.below.trans (hb'.mono x.below.size)⟩ hb'
    simp only [Act.put, List.setIfInBounds_toArray, List.set_cons_succ, List.set_cons_zero]
    apply EqGo.run
    focus
      kernel_rfl
    focus
      intro x K hK
      go_wp2_with fail
      first | exact hK x (Below.refl _ _) | exact Below.refl _ _
    simp only [Act.put, List.setIfInBounds_toArray, List.set_cons_succ, List.set_cons_zero]
    apply EqGo.run
    focus
      kernel_rfl
    focus
      intro x K hK
      go_wp2_with fail
      first | exact hK x (Below.refl _ _) | exact Below.refl _ _
    simp only [Act.put, List.setIfInBounds_toArray, List.set_cons_succ, List.set_cons_zero]
    intro z K hK
    obtain ⟨⟨u1, hu1⟩, fu1, ⟨u2, hu2⟩, fu2, hsA, hfA, hsB, hfB⟩ := HST.out z.val z.below
    replace HF := Lib.hid (HF.out.trans hfA)
    replace HS := Lib.hid hsA
    clear hsA hfA hsB hfB HST HHE l0
    go_wp2_with fail
    refine hK undef _ ?_
    clear hK K hu1 fu1 hu2 fu2 u1 u2
    intro z2
    replace HF := Lib.hid (HF.out.trans (FrW.of z2.below HS.out.bw))
    replace HS := Lib.hid (HS.out.below z2.below)
    generalize z2.val = W' at *
    clear z2 gP gn8
    have HFIN := Lib.hid ((HS.out.done (sz := 8 * (1 + fl) - 3) (by omega)).of HBW1.out HBW.out)
    rw [HFL.out] at HFIN
    go_wp2_with fail
    go_returns
    exact HFIN.out
set_option maxRecDepth 100000 in
set_option maxHeartbeats 8000000 in
theorem dd24 (kd : Int) (hkd : kd = 24) (n : Int) (s : List UInt8) (ks : List Tr) (hkz : ∀ t ∈ ks, t.kind ≠ 0) (hs : s.length ≤ 2000) (hk1 : ks.length = 3) (hw0 : ∀ i (h : i < ks.length), DoOk ks[i]) : DoOk (.mk kd n s ks) := by
  have HKZ := Lib.hid hkz
  have HSL := Lib.hid hs
  have HKD := Lib.hid hkd
  have HK1 := Lib.hid hk1
  have HW0 := Lib.hid hw0
  clear hkz hs hkd hk1 hw0
  intro base g X now high v w h hv hbw hX hnow hhi
  rw [flat_size] at hX hnow ⊢
  have KC := Lib.hid (show ∀ W, SlRd W v (flat (.mk kd n s ks)) → Calls Tryd.prog 64 #[v] W (KidsRet (ks.map flat) W) from fun W h => by
    rw [← kidsL_flat kd n s ks]
    exact kids_any v _ W h (by rw [flat_size]; omega))
  have hH9 : now + heightT (.mk kd n s ks) ≤ 30000000 := by have := heightT_len (.mk kd n s ks); rw [flat_size] at this; omega
  have HV := Lib.hid hv.rd
  have HWR := Lib.hid h
  obtain ⟨A0, cp0, hve, hrd, hc0, hm0, -⟩ := hv.rd
  have h0 : 0 < (flat (.mk kd n s ks)).length := flat_pos _
  obtain ⟨b, o, rfl, hbl⟩ := hrd.addr h0
  have hx := hrd.at_ h0
  rw [show (flat (.mk kd n s ks))[0] = ⟨kd, n, ks.length, ((1 + (flatAll ks).length : Nat) : Int), s⟩ by simp [flat_mk]] at hx
  have d0 := hx.2 0 _ rfl
  have d1 := hx.2 1 _ rfl
  have d2 := hx.2 2 _ rfl
  have d3 := hx.2 3 _ rfl
  have d4 := hx.2 4 _ rfl
  simp only [Nat.zero_mul, Nat.add_zero] at d0 d1 d2 d3 d4
  subst hve
  obtain ⟨m, hml⟩ : ∃ m, m = (flat (.mk kd n s ks)).length := ⟨_, rfl⟩
  have hm1 : 0 < m := by omega
  rw [← hml] at KC HV ⊢
  have hkn := len_flatAll ks
  have HKN := Lib.hid hkn
  have HH9 := Lib.hid hH9
  have HXX := Lib.hid (And.intro hX (And.intro hnow hhi))
  have HBW := Lib.hid hbw
  obtain ⟨Hh, hHh⟩ : ∃ Hh, Hh = heightT (.mk kd n s ks) := ⟨_, rfl⟩
  rw [← hHh]
  rw [← hHh] at HH9
  have HHQ := Lib.hid hHh
  obtain ⟨Zk, hZk⟩ : ∃ Zk : Int, Zk = ks.length := ⟨_, rfl⟩
  obtain ⟨Zz, hZz⟩ : ∃ Zz : Int, Zz = ((1 + (flatAll ks).length : Nat) : Int) := ⟨_, rfl⟩
  rw [← hZk] at d2
  rw [← hZz] at d3
  have HZK := Lib.hid hZk
  obtain ⟨kl, hkl⟩ : ∃ kl, kl = ks.length := ⟨_, rfl⟩
  have HKL := Lib.hid hkl
  have HZZ := Lib.hid hZz
  clear hx hrd hc0 hm0 hkn hml h0 hv h hH9 hX hnow hhi hbw hHh hZk hZz hkl
  go_enter Tryd.func33, Tryd.ntmps33
  go_upto_region 0 with (fail)
  apply wp_region_relA 6 [eqT _, eqT _, eqT (.agg #[.int .i64 kd, .int .i64 n, .int .i64 Zk, .int .i64 Zz, .string ⟨s.toArray⟩]), eqT _, kidsG w.heap.size kl (ks.map flat), newG 98 #[.int .i64 0, .int .i64 0, .int .i64 0, .int .i64 0, .string ⟨#[]⟩] w.heap.size] (by kernel_rfl) (by kernel_rfl) (by kernel_rfl) rfl
  focus
    refine ⟨?_, ?_⟩
    focus
      unfold opGoal
      rw [if_pos (by kernel_rfl)]
      intro x hb hd K hk
      clear hd
      go_wp2_with fail
      exact hk _ _ rfl trivial (Below.refl _ _)
    rintro _ rfl
    simp only [Act.put, List.setIfInBounds_toArray, List.set_cons_succ, List.set_cons_zero]
    refine ⟨?_, ?_⟩
    focus
      unfold opGoal
      rw [if_pos (by kernel_rfl)]
      intro x hb hd K hk
      clear hd
      go_wp2_with fail
      exact hk _ _ rfl trivial (Below.refl _ _)
    rintro _ rfl
    simp only [Act.put, List.setIfInBounds_toArray, List.set_cons_succ, List.set_cons_zero]
    refine ⟨?_, ?_⟩
    focus
      unfold opGoal
      rw [if_pos (by kernel_rfl)]
      intro x hb hd K hk
      clear hd
      have l0 := cell_keep hb d0
      have l1 := cell_keep hb d1
      have l2 := cell_keep hb d2
      have l3 := cell_keep hb d3
      have l4 := cell_keep hb d4
      go_wp2_with fail
      exact hk _ _ rfl trivial (Below.refl _ _)
    rintro _ rfl
    simp only [Act.put, List.setIfInBounds_toArray, List.set_cons_succ, List.set_cons_zero]
    refine ⟨?_, ?_⟩
    focus
      unfold opGoal
      rw [if_pos (by kernel_rfl)]
      intro x hb hd K hk
      clear hd
      go_wp2_with fail
      exact hk _ _ rfl trivial (Below.refl _ _)
    rintro _ rfl
    simp only [Act.put, List.setIfInBounds_toArray, List.set_cons_succ, List.set_cons_zero]
    refine ⟨?_, ?_⟩
    focus
      unfold opGoal
      rw [if_pos (by kernel_rfl)]
      intro x hb hd K hk
      clear hd
      have hsz := hb.size
      have HC := Lib.hid (KC.out x (HV.out.below hb))
      go_wp2_with fail
      refine HC.out.mono ?_
      rintro e x' ⟨A1, c1, vs, rfl, ho, ha, hb'⟩
      rw [List.length_map, ← HKL.out] at ho ⊢
      obtain ⟨A', c', he, hnc, -⟩ := own_form ho
      injection he with he1 _ he3
      subst he1 he3
      exact hk _ _ ⟨_, _, rfl⟩ ⟨A1, c1, vs, rfl, hnc, own_mono ho hsz, ha.mono hsz⟩ hb'
    rintro _ ⟨A1, c1, rfl⟩
    simp only [Act.put, List.setIfInBounds_toArray, List.set_cons_succ, List.set_cons_zero]
    refine ⟨?_, ?_⟩
    focus
      unfold opGoal
      rw [if_pos (by kernel_rfl)]
      intro x hb hd K hk
      clear hd
      go_wp2_with fail
      refine hk _ _ ⟨_, rfl⟩ ?_ ((Below.refl _ _).alloc (Nat.le_refl _) _)
      intro g' hg
      injection hg with hg
      injection hg with hg
      injection hg with hg
      subst hg
      exact ⟨Blk.new x _ _, hb.size⟩
    rintro _ ⟨gx, rfl⟩
    simp only [Act.put, List.setIfInBounds_toArray, List.set_cons_succ, List.set_cons_zero]
    intro y hby hf
    simp only [List.drop_succ_cons, List.drop_zero]
    have hk4 := hf 4 (kidsG w.heap.size kl (ks.map flat)) (.slice A1 kl c1) (by kernel_rfl) (by kernel_rfl)
    obtain ⟨hg5, hgw⟩ := (hf 5 (newG 98 #[.int .i64 0, .int .i64 0, .int .i64 0, .int .i64 0, .string ⟨#[]⟩] w.heap.size) (.pointer (some ⟨gx, 0, none⟩)) (by kernel_rfl) (by kernel_rfl)) gx rfl
    obtain ⟨_, _, vs4, he4, hcl, ho4, ha4⟩ := hk4
    injection he4 with he4 _ he5
    subst he4 he5
    have z0 := hg5.cell 0
    have z1 := hg5.cell 1
    have z2 := hg5.cell 2
    have z3 := hg5.cell 3
    have z4 := hg5.cell 4
    have y0 := hg5.frozen 0
    have y1 := hg5.frozen 1
    have y2 := hg5.frozen 2
    have y3 := hg5.frozen 3
    have y4 := hg5.frozen 4
    simp only [List.getElem?_toArray, List.getElem?_cons_zero, List.getElem?_cons_succ] at z0 z1 z2 z3 z4
    clear hf KC d0 d1 d2 d3 d4 hbl hm1
    have HQ5 := Lib.hid hg5
    have HO4 := Lib.hid ho4
    have HA4 := Lib.hid ha4
    have HBY := Lib.hid hby
    clear hg5 ho4 ha4 hby
    go_upto_region 1 with (fail)
    obtain ⟨W', hW1⟩ : ∃ W', W' = (((((y.setCell ⟨gx, 0, none⟩ (.int .i64 kd)).setCell ⟨gx, 1, none⟩ (.int .i64 n)).setCell ⟨gx, 2, none⟩ (.int .i64 Zk)).setCell ⟨gx, 3, none⟩ (.int .i64 Zz)).setCell ⟨gx, 4, none⟩ (.string ⟨s.toArray⟩)) := ⟨_, rfl⟩
    rw [← hW1]
    have hB1 : But gx y W' := by
      rw [hW1]
      exact ((((But.set y 0 _).trans (But.set _ 1 _)).trans (But.set _ 2 _)).trans (But.set _ 3 _)).trans (But.set _ 4 _)
    have HBX := Lib.hid (show Blk W' gx 98 #[.int .i64 kd, .int .i64 n, .int .i64 Zk, .int .i64 Zz, .string ⟨s.toArray⟩] from by
      rw [hW1]
      simpa using ((((HQ5.out.set 0 (.int .i64 kd)).set 1 (.int .i64 n)).set 2 (.int .i64 Zk)).set 3 (.int .i64 Zz)).set 4 (.string ⟨s.toArray⟩))
    have HBW1 := Lib.hid (show Below w.heap.size w W' from HBY.out.trans (hB1.below hgw HBY.out.size))
    have HKS := Lib.hid (show KdS base W' A1 (ks.map flat) from KdS.of_own (own_but HO4.out hB1 HQ5.out (by decide)) (by rw [List.length_map]; exact HKL.out) (kids_ne HA4.out HQ5.out hB1 HKZ.out))
    have HS := Lib.hid (St.start (H := Hh) (HWR.out.below HBW1.out) HKS.out (Nat.le_trans HBW.out HBW1.out.size) ⟨HXX.out.2.2, HH9.out⟩)
    have HF := Lib.hid (FrW.refl base W')
    clear hW1 hB1 z0 z1 z2 z3 z4 y0 y1 y2 y3 y4 HO4 HA4 HQ5
    have hxx := HXX.out
    have hh9 := HH9.out
    have hkd := HKD.out
    subst hkd
    obtain ⟨t0, t1, t2, rfl⟩ : ∃ t0 t1 t2, ks = [t0, t1, t2] := by
      match ks, HK1.out with
      | [t0, t1, t2], _ => exact ⟨t0, t1, t2, rfl⟩
    have hT0 := HW0.out 0 (by simp)
    simp only [List.getElem_cons_zero, List.getElem_cons_succ] at hT0
    have hH0 : heightT t0 ≤ Hh := by
      have := kid_h 24 n s [t0, t1, t2] 0 (by simp)
      rw [HHQ.out]
      simp only [List.getElem_cons_zero, List.getElem_cons_succ] at this
      omega
    have hp0 := flat_pos t0
    have hT1 := HW0.out 1 (by simp)
    simp only [List.getElem_cons_zero, List.getElem_cons_succ] at hT1
    have hH1 : heightT t1 ≤ Hh := by
      have := kid_h 24 n s [t0, t1, t2] 1 (by simp)
      rw [HHQ.out]
      simp only [List.getElem_cons_zero, List.getElem_cons_succ] at this
      omega
    have hp1 := flat_pos t1
    have hT2 := HW0.out 2 (by simp)
    simp only [List.getElem_cons_zero, List.getElem_cons_succ] at hT2
    have hH2 : heightT t2 ≤ Hh := by
      have := kid_h 24 n s [t0, t1, t2] 2 (by simp)
      rw [HHQ.out]
      simp only [List.getElem_cons_zero, List.getElem_cons_succ] at this
      omega
    have hp2 := flat_pos t2
    obtain ⟨kb, ko, _, rfl, -⟩ := HKS.out.at_ (k := 0) (by simp)
    obtain ⟨fl, hfl⟩ : ∃ fl, fl = (flatAll [t0, t1, t2]).length := ⟨_, rfl⟩
    rw [← hfl] at hxx ⊢
    have hfl0 : fl = (flat t0).length + (flat t1).length + (flat t2).length := by rw [hfl]; (simp only [flatAll_cons, flatAll_nil, List.append_nil, List.length_append] <;> omega)
    have hkl1 : kl = 3 := HKL.out
    have HFL := Lib.hid hfl
    clear hfl
    subst hkl1
    have q0 := HBX.out.cell 0
    have q1 := HBX.out.cell 1
    have q2 := HBX.out.cell 2
    have q3 := HBX.out.cell 3
    have q4 := HBX.out.cell 4
    simp only [List.getElem?_toArray, List.getElem?_cons_zero, List.getElem?_cons_succ] at q0 q1 q2 q3 q4
    obtain ⟨Av, nv, cv, hkc, hcc⟩ := (HS.out.do_ (k := 0) hT0 (by simp) rfl (by omega) (by omega) (by omega))
    have HCC := Lib.hid hcc
    clear hcc
    first | (simp only [Nat.add_zero] at hkc) | skip
    go_wp2_with fail
    refine HCC.out.mono ?_
    rintro e W' ⟨rfl, hs', hf'⟩
    replace HS := Lib.hid hs'
    replace HF := Lib.hid (HF.out.trans hf')
    clear hs' hf' HCC hkc
    clear q0 q1 q2 q3 q4
    have HCC := Lib.hid (HS.out.op_ 19 0 0 [] (fun m _ => by simp [okI, placeA, placeB, countA]; omega) (by omega))
    go_wp2_with fail
    refine HCC.out.mono ?_
    rintro e W' ⟨P1, rfl, hX1, hL1, hP1, hs', hf'⟩
    replace HS := Lib.hid hs'
    replace HF := Lib.hid (HF.out.trans hf')
    clear hs' hf' HCC
    obtain ⟨Av, nv, cv, hkc, hcc⟩ := (HS.out.do_ (k := 1) hT1 (by simp) rfl (by omega) (by omega) (by omega))
    have HCC := Lib.hid hcc
    clear hcc
    first | (simp only [Nat.add_zero] at hkc) | skip
    go_wp2_with fail
    refine HCC.out.mono ?_
    rintro e W' ⟨rfl, hs', hf'⟩
    replace HS := Lib.hid hs'
    replace HF := Lib.hid (HF.out.trans hf')
    clear hs' hf' HCC hkc
    have HCC := Lib.hid (HS.out.op_ 18 0 0 [] (fun m _ => by simp [okI, placeA, placeB, countA]; omega) (by omega))
    go_wp2_with fail
    refine HCC.out.mono ?_
    rintro e W' ⟨P2, rfl, hX2, hL2, hP2, hs', hf'⟩
    replace HS := Lib.hid hs'
    replace HF := Lib.hid (HF.out.trans hf')
    clear hs' hf' HCC
    obtain ⟨ga, gc, gn, gP, gn8, l0, hhere, hst⟩ := HS.out.fill (P := P1) (by omega) (by omega) (by omega)
    have HHE := Lib.hid hhere
    have HST := Lib.hid hst
    clear hhere hst
    go_upto_region 17 with (fail)
    refine wp_region_mid 12 _ rfl rfl (by kernel_rfl) (by kernel_rfl) (by kernel_rfl) ?_
    apply EqGo.run
    focus
      kernel_rfl
    focus
      intro x K hK
      go_wp2_with fail
      first | exact hK x (Below.refl _ _) | exact Below.refl _ _
    simp only [Act.put, List.setIfInBounds_toArray, List.set_cons_succ, List.set_cons_zero]
    apply EqGo.run
    focus
      kernel_rfl
    focus
      intro x K hK
      go_wp2_with fail
      first | exact hK x (Below.refl _ _) | exact Below.refl _ _
    simp only [Act.put, List.setIfInBounds_toArray, List.set_cons_succ, List.set_cons_zero]
    apply EqGo.run
    focus
      kernel_rfl
    focus
      intro x K hK
      go_wp2_with fail
      first | exact hK x (Below.refl _ _) | exact Below.refl _ _
    simp only [Act.put, List.setIfInBounds_toArray, List.set_cons_succ, List.set_cons_zero]
    apply EqGo.run
    focus
      kernel_rfl
    focus
      intro x K hK
      go_wp2_with fail
      first | exact hK x (Below.refl _ _) | exact Below.refl _ _
    simp only [Act.put, List.setIfInBounds_toArray, List.set_cons_succ, List.set_cons_zero]
    apply EqGo.run
    focus
      kernel_rfl
    focus
      intro x K hK
      go_wp2_with fail
      first | exact hK x (Below.refl _ _) | exact Below.refl _ _
    simp only [Act.put, List.setIfInBounds_toArray, List.set_cons_succ, List.set_cons_zero]
    apply EqGo.run
    focus
      kernel_rfl
    focus
      intro x K hK
      go_wp2_with fail
      first | exact hK x (Below.refl _ _) | exact Below.refl _ _
    simp only [Act.put, List.setIfInBounds_toArray, List.set_cons_succ, List.set_cons_zero]
    apply EqGo.run
    focus
      kernel_rfl
    focus
      intro x K hK
      go_wp2_with fail
      first | exact hK x (Below.refl _ _) | exact Below.refl _ _
    simp only [Act.put, List.setIfInBounds_toArray, List.set_cons_succ, List.set_cons_zero]
    apply EqGo.run
    focus
      kernel_rfl
    focus
      intro x K hK
      go_wp2_with fail
      first | exact hK x (Below.refl _ _) | exact Below.refl _ _
    simp only [Act.put, List.setIfInBounds_toArray, List.set_cons_succ, List.set_cons_zero]
    apply EqGo.run
    focus
      kernel_rfl
    focus
      intro x K hK
      go_wp2_with fail
      first | exact hK x (Below.refl _ _) | exact Below.refl _ _
    simp only [Act.put, List.setIfInBounds_toArray, List.set_cons_succ, List.set_cons_zero]
    apply EqGo.run
    focus
      kernel_rfl
    focus
      intro x K hK
      go_wp2_with fail
      refine (Hid.out HHE x.val x.below).mono ?_
      rintro e x' ⟨rfl, hb'⟩
      exact hK ⟨x', x.below.trans (hb'.mono x.below.size)⟩ hb'
    simp only [Act.put, List.setIfInBounds_toArray, List.set_cons_succ, List.set_cons_zero]
    apply EqGo.run
    focus
      kernel_rfl
    focus
      intro x K hK
      go_wp2_with fail
      first | exact hK x (Below.refl _ _) | exact Below.refl _ _
    simp only [Act.put, List.setIfInBounds_toArray, List.set_cons_succ, List.set_cons_zero]
    apply EqGo.run
    focus
      kernel_rfl
    focus
      intro x K hK
      go_wp2_with fail
      first | exact hK x (Below.refl _ _) | exact Below.refl _ _
    simp only [Act.put, List.setIfInBounds_toArray, List.set_cons_succ, List.set_cons_zero]
    intro z K hK
    obtain ⟨⟨u1, hu1⟩, fu1, ⟨u2, hu2⟩, fu2, hsA, hfA, hsB, hfB⟩ := HST.out z.val z.below
    replace HF := Lib.hid (HF.out.trans hfA)
    replace HS := Lib.hid hsA
    clear hsA hfA hsB hfB HST HHE l0
    go_wp2_with fail
    refine hK undef _ ?_
    clear hK K hu1 fu1 hu2 fu2 u1 u2
    intro z2
    replace HF := Lib.hid (HF.out.trans (FrW.of z2.below HS.out.bw))
    replace HS := Lib.hid (HS.out.below z2.below)
    generalize z2.val = W' at *
    clear z2 gP gn8
    obtain ⟨Av, nv, cv, hkc, hcc⟩ := (HS.out.do_ (k := 2) hT2 (by simp) rfl (by omega) (by omega) (by omega))
    have HCC := Lib.hid hcc
    clear hcc
    first | (simp only [Nat.add_zero] at hkc) | skip
    go_wp2_with fail
    refine HCC.out.mono ?_
    rintro e W' ⟨rfl, hs', hf'⟩
    replace HS := Lib.hid hs'
    replace HF := Lib.hid (HF.out.trans hf')
    clear hs' hf' HCC hkc
    obtain ⟨ga, gc, gn, gP, gn8, l0, hhere, hst⟩ := HS.out.fill (P := P2) (by omega) (by omega) (by omega)
    have HHE := Lib.hid hhere
    have HST := Lib.hid hst
    clear hhere hst
    go_upto_region 19 with (fail)
    refine wp_region_mid 12 _ rfl rfl (by kernel_rfl) (by kernel_rfl) (by kernel_rfl) ?_
    apply EqGo.run
    focus
      kernel_rfl
    focus
      intro x K hK
      go_wp2_with fail
      first | exact hK x (Below.refl _ _) | exact Below.refl _ _
    simp only [Act.put, List.setIfInBounds_toArray, List.set_cons_succ, List.set_cons_zero]
    apply EqGo.run
    focus
      kernel_rfl
    focus
      intro x K hK
      go_wp2_with fail
      first | exact hK x (Below.refl _ _) | exact Below.refl _ _
    simp only [Act.put, List.setIfInBounds_toArray, List.set_cons_succ, List.set_cons_zero]
    apply EqGo.run
    focus
      kernel_rfl
    focus
      intro x K hK
      go_wp2_with fail
      first | exact hK x (Below.refl _ _) | exact Below.refl _ _
    simp only [Act.put, List.setIfInBounds_toArray, List.set_cons_succ, List.set_cons_zero]
    apply EqGo.run
    focus
      kernel_rfl
    focus
      intro x K hK
      go_wp2_with fail
      first | exact hK x (Below.refl _ _) | exact Below.refl _ _
    simp only [Act.put, List.setIfInBounds_toArray, List.set_cons_succ, List.set_cons_zero]
    apply EqGo.run
    focus
      kernel_rfl
    focus
      intro x K hK
      go_wp2_with fail
      first | exact hK x (Below.refl _ _) | exact Below.refl _ _
    simp only [Act.put, List.setIfInBounds_toArray, List.set_cons_succ, List.set_cons_zero]
    apply EqGo.run
    focus
      kernel_rfl
    focus
      intro x K hK
      go_wp2_with fail
      first | exact hK x (Below.refl _ _) | exact Below.refl _ _
    simp only [Act.put, List.setIfInBounds_toArray, List.set_cons_succ, List.set_cons_zero]
    apply EqGo.run
    focus
      kernel_rfl
    focus
      intro x K hK
      go_wp2_with fail
      first | exact hK x (Below.refl _ _) | exact Below.refl _ _
    simp only [Act.put, List.setIfInBounds_toArray, List.set_cons_succ, List.set_cons_zero]
    apply EqGo.run
    focus
      kernel_rfl
    focus
      intro x K hK
      go_wp2_with fail
      first | exact hK x (Below.refl _ _) | exact Below.refl _ _
    simp only [Act.put, List.setIfInBounds_toArray, List.set_cons_succ, List.set_cons_zero]
    apply EqGo.run
    focus
      kernel_rfl
    focus
      intro x K hK
      go_wp2_with fail
      first | exact hK x (Below.refl _ _) | exact Below.refl _ _
    simp only [Act.put, List.setIfInBounds_toArray, List.set_cons_succ, List.set_cons_zero]
    apply EqGo.run
    focus
      kernel_rfl
    focus
      intro x K hK
      go_wp2_with fail
      refine (Hid.out HHE x.val x.below).mono ?_
      rintro e x' ⟨rfl, hb'⟩
      exact hK ⟨x', x.below.trans (hb'.mono x.below.size)⟩ hb'
    simp only [Act.put, List.setIfInBounds_toArray, List.set_cons_succ, List.set_cons_zero]
    apply EqGo.run
    focus
      kernel_rfl
    focus
      intro x K hK
      go_wp2_with fail
      first | exact hK x (Below.refl _ _) | exact Below.refl _ _
    simp only [Act.put, List.setIfInBounds_toArray, List.set_cons_succ, List.set_cons_zero]
    apply EqGo.run
    focus
      kernel_rfl
    focus
      intro x K hK
      go_wp2_with fail
      first | exact hK x (Below.refl _ _) | exact Below.refl _ _
    simp only [Act.put, List.setIfInBounds_toArray, List.set_cons_succ, List.set_cons_zero]
    intro z K hK
    obtain ⟨⟨u1, hu1⟩, fu1, ⟨u2, hu2⟩, fu2, hsA, hfA, hsB, hfB⟩ := HST.out z.val z.below
    replace HF := Lib.hid (HF.out.trans hfA)
    replace HS := Lib.hid hsA
    clear hsA hfA hsB hfB HST HHE l0
    go_wp2_with fail
    refine hK undef _ ?_
    clear hK K hu1 fu1 hu2 fu2 u1 u2
    intro z2
    replace HF := Lib.hid (HF.out.trans (FrW.of z2.below HS.out.bw))
    replace HS := Lib.hid (HS.out.below z2.below)
    generalize z2.val = W' at *
    clear z2 gP gn8
    have HFIN := Lib.hid ((HS.out.done (sz := 8 * (1 + fl) - 3) (by omega)).of HBW1.out HBW.out)
    rw [HFL.out] at HFIN
    go_wp2_with fail
    go_returns
    exact HFIN.out
set_option maxRecDepth 100000 in
set_option maxHeartbeats 8000000 in
theorem dd28 (kd : Int) (hkd : kd = 28) (n : Int) (s : List UInt8) (ks : List Tr) (hkz : ∀ t ∈ ks, t.kind ≠ 0) (hs : s.length ≤ 2000) (hk1 : ks.length = 2) (hw0 : ∀ i (h : i < ks.length), DoOk ks[i]) : DoOk (.mk kd n s ks) := by
  have HKZ := Lib.hid hkz
  have HSL := Lib.hid hs
  have HKD := Lib.hid hkd
  have HK1 := Lib.hid hk1
  have HW0 := Lib.hid hw0
  clear hkz hs hkd hk1 hw0
  intro base g X now high v w h hv hbw hX hnow hhi
  rw [flat_size] at hX hnow ⊢
  have KC := Lib.hid (show ∀ W, SlRd W v (flat (.mk kd n s ks)) → Calls Tryd.prog 64 #[v] W (KidsRet (ks.map flat) W) from fun W h => by
    rw [← kidsL_flat kd n s ks]
    exact kids_any v _ W h (by rw [flat_size]; omega))
  have hH9 : now + heightT (.mk kd n s ks) ≤ 30000000 := by have := heightT_len (.mk kd n s ks); rw [flat_size] at this; omega
  have HV := Lib.hid hv.rd
  have HWR := Lib.hid h
  obtain ⟨A0, cp0, hve, hrd, hc0, hm0, -⟩ := hv.rd
  have h0 : 0 < (flat (.mk kd n s ks)).length := flat_pos _
  obtain ⟨b, o, rfl, hbl⟩ := hrd.addr h0
  have hx := hrd.at_ h0
  rw [show (flat (.mk kd n s ks))[0] = ⟨kd, n, ks.length, ((1 + (flatAll ks).length : Nat) : Int), s⟩ by simp [flat_mk]] at hx
  have d0 := hx.2 0 _ rfl
  have d1 := hx.2 1 _ rfl
  have d2 := hx.2 2 _ rfl
  have d3 := hx.2 3 _ rfl
  have d4 := hx.2 4 _ rfl
  simp only [Nat.zero_mul, Nat.add_zero] at d0 d1 d2 d3 d4
  subst hve
  obtain ⟨m, hml⟩ : ∃ m, m = (flat (.mk kd n s ks)).length := ⟨_, rfl⟩
  have hm1 : 0 < m := by omega
  rw [← hml] at KC HV ⊢
  have hkn := len_flatAll ks
  have HKN := Lib.hid hkn
  have HH9 := Lib.hid hH9
  have HXX := Lib.hid (And.intro hX (And.intro hnow hhi))
  have HBW := Lib.hid hbw
  obtain ⟨Hh, hHh⟩ : ∃ Hh, Hh = heightT (.mk kd n s ks) := ⟨_, rfl⟩
  rw [← hHh]
  rw [← hHh] at HH9
  have HHQ := Lib.hid hHh
  obtain ⟨Zk, hZk⟩ : ∃ Zk : Int, Zk = ks.length := ⟨_, rfl⟩
  obtain ⟨Zz, hZz⟩ : ∃ Zz : Int, Zz = ((1 + (flatAll ks).length : Nat) : Int) := ⟨_, rfl⟩
  rw [← hZk] at d2
  rw [← hZz] at d3
  have HZK := Lib.hid hZk
  obtain ⟨kl, hkl⟩ : ∃ kl, kl = ks.length := ⟨_, rfl⟩
  have HKL := Lib.hid hkl
  have HZZ := Lib.hid hZz
  clear hx hrd hc0 hm0 hkn hml h0 hv h hH9 hX hnow hhi hbw hHh hZk hZz hkl
  go_enter Tryd.func33, Tryd.ntmps33
  go_upto_region 0 with (fail)
  apply wp_region_relA 6 [eqT _, eqT _, eqT (.agg #[.int .i64 kd, .int .i64 n, .int .i64 Zk, .int .i64 Zz, .string ⟨s.toArray⟩]), eqT _, kidsG w.heap.size kl (ks.map flat), newG 98 #[.int .i64 0, .int .i64 0, .int .i64 0, .int .i64 0, .string ⟨#[]⟩] w.heap.size] (by kernel_rfl) (by kernel_rfl) (by kernel_rfl) rfl
  focus
    refine ⟨?_, ?_⟩
    focus
      unfold opGoal
      rw [if_pos (by kernel_rfl)]
      intro x hb hd K hk
      clear hd
      go_wp2_with fail
      exact hk _ _ rfl trivial (Below.refl _ _)
    rintro _ rfl
    simp only [Act.put, List.setIfInBounds_toArray, List.set_cons_succ, List.set_cons_zero]
    refine ⟨?_, ?_⟩
    focus
      unfold opGoal
      rw [if_pos (by kernel_rfl)]
      intro x hb hd K hk
      clear hd
      go_wp2_with fail
      exact hk _ _ rfl trivial (Below.refl _ _)
    rintro _ rfl
    simp only [Act.put, List.setIfInBounds_toArray, List.set_cons_succ, List.set_cons_zero]
    refine ⟨?_, ?_⟩
    focus
      unfold opGoal
      rw [if_pos (by kernel_rfl)]
      intro x hb hd K hk
      clear hd
      have l0 := cell_keep hb d0
      have l1 := cell_keep hb d1
      have l2 := cell_keep hb d2
      have l3 := cell_keep hb d3
      have l4 := cell_keep hb d4
      go_wp2_with fail
      exact hk _ _ rfl trivial (Below.refl _ _)
    rintro _ rfl
    simp only [Act.put, List.setIfInBounds_toArray, List.set_cons_succ, List.set_cons_zero]
    refine ⟨?_, ?_⟩
    focus
      unfold opGoal
      rw [if_pos (by kernel_rfl)]
      intro x hb hd K hk
      clear hd
      go_wp2_with fail
      exact hk _ _ rfl trivial (Below.refl _ _)
    rintro _ rfl
    simp only [Act.put, List.setIfInBounds_toArray, List.set_cons_succ, List.set_cons_zero]
    refine ⟨?_, ?_⟩
    focus
      unfold opGoal
      rw [if_pos (by kernel_rfl)]
      intro x hb hd K hk
      clear hd
      have hsz := hb.size
      have HC := Lib.hid (KC.out x (HV.out.below hb))
      go_wp2_with fail
      refine HC.out.mono ?_
      rintro e x' ⟨A1, c1, vs, rfl, ho, ha, hb'⟩
      rw [List.length_map, ← HKL.out] at ho ⊢
      obtain ⟨A', c', he, hnc, -⟩ := own_form ho
      injection he with he1 _ he3
      subst he1 he3
      exact hk _ _ ⟨_, _, rfl⟩ ⟨A1, c1, vs, rfl, hnc, own_mono ho hsz, ha.mono hsz⟩ hb'
    rintro _ ⟨A1, c1, rfl⟩
    simp only [Act.put, List.setIfInBounds_toArray, List.set_cons_succ, List.set_cons_zero]
    refine ⟨?_, ?_⟩
    focus
      unfold opGoal
      rw [if_pos (by kernel_rfl)]
      intro x hb hd K hk
      clear hd
      go_wp2_with fail
      refine hk _ _ ⟨_, rfl⟩ ?_ ((Below.refl _ _).alloc (Nat.le_refl _) _)
      intro g' hg
      injection hg with hg
      injection hg with hg
      injection hg with hg
      subst hg
      exact ⟨Blk.new x _ _, hb.size⟩
    rintro _ ⟨gx, rfl⟩
    simp only [Act.put, List.setIfInBounds_toArray, List.set_cons_succ, List.set_cons_zero]
    intro y hby hf
    simp only [List.drop_succ_cons, List.drop_zero]
    have hk4 := hf 4 (kidsG w.heap.size kl (ks.map flat)) (.slice A1 kl c1) (by kernel_rfl) (by kernel_rfl)
    obtain ⟨hg5, hgw⟩ := (hf 5 (newG 98 #[.int .i64 0, .int .i64 0, .int .i64 0, .int .i64 0, .string ⟨#[]⟩] w.heap.size) (.pointer (some ⟨gx, 0, none⟩)) (by kernel_rfl) (by kernel_rfl)) gx rfl
    obtain ⟨_, _, vs4, he4, hcl, ho4, ha4⟩ := hk4
    injection he4 with he4 _ he5
    subst he4 he5
    have z0 := hg5.cell 0
    have z1 := hg5.cell 1
    have z2 := hg5.cell 2
    have z3 := hg5.cell 3
    have z4 := hg5.cell 4
    have y0 := hg5.frozen 0
    have y1 := hg5.frozen 1
    have y2 := hg5.frozen 2
    have y3 := hg5.frozen 3
    have y4 := hg5.frozen 4
    simp only [List.getElem?_toArray, List.getElem?_cons_zero, List.getElem?_cons_succ] at z0 z1 z2 z3 z4
    clear hf KC d0 d1 d2 d3 d4 hbl hm1
    have HQ5 := Lib.hid hg5
    have HO4 := Lib.hid ho4
    have HA4 := Lib.hid ha4
    have HBY := Lib.hid hby
    clear hg5 ho4 ha4 hby
    go_upto_region 1 with (fail)
    obtain ⟨W', hW1⟩ : ∃ W', W' = (((((y.setCell ⟨gx, 0, none⟩ (.int .i64 kd)).setCell ⟨gx, 1, none⟩ (.int .i64 n)).setCell ⟨gx, 2, none⟩ (.int .i64 Zk)).setCell ⟨gx, 3, none⟩ (.int .i64 Zz)).setCell ⟨gx, 4, none⟩ (.string ⟨s.toArray⟩)) := ⟨_, rfl⟩
    rw [← hW1]
    have hB1 : But gx y W' := by
      rw [hW1]
      exact ((((But.set y 0 _).trans (But.set _ 1 _)).trans (But.set _ 2 _)).trans (But.set _ 3 _)).trans (But.set _ 4 _)
    have HBX := Lib.hid (show Blk W' gx 98 #[.int .i64 kd, .int .i64 n, .int .i64 Zk, .int .i64 Zz, .string ⟨s.toArray⟩] from by
      rw [hW1]
      simpa using ((((HQ5.out.set 0 (.int .i64 kd)).set 1 (.int .i64 n)).set 2 (.int .i64 Zk)).set 3 (.int .i64 Zz)).set 4 (.string ⟨s.toArray⟩))
    have HBW1 := Lib.hid (show Below w.heap.size w W' from HBY.out.trans (hB1.below hgw HBY.out.size))
    have HKS := Lib.hid (show KdS base W' A1 (ks.map flat) from KdS.of_own (own_but HO4.out hB1 HQ5.out (by decide)) (by rw [List.length_map]; exact HKL.out) (kids_ne HA4.out HQ5.out hB1 HKZ.out))
    have HS := Lib.hid (St.start (H := Hh) (HWR.out.below HBW1.out) HKS.out (Nat.le_trans HBW.out HBW1.out.size) ⟨HXX.out.2.2, HH9.out⟩)
    have HF := Lib.hid (FrW.refl base W')
    clear hW1 hB1 z0 z1 z2 z3 z4 y0 y1 y2 y3 y4 HO4 HA4 HQ5
    have hxx := HXX.out
    have hh9 := HH9.out
    have hkd := HKD.out
    subst hkd
    obtain ⟨t0, t1, rfl⟩ : ∃ t0 t1, ks = [t0, t1] := by
      match ks, HK1.out with
      | [t0, t1], _ => exact ⟨t0, t1, rfl⟩
    have hT0 := HW0.out 0 (by simp)
    simp only [List.getElem_cons_zero, List.getElem_cons_succ] at hT0
    have hH0 : heightT t0 ≤ Hh := by
      have := kid_h 28 n s [t0, t1] 0 (by simp)
      rw [HHQ.out]
      simp only [List.getElem_cons_zero, List.getElem_cons_succ] at this
      omega
    have hp0 := flat_pos t0
    have hT1 := HW0.out 1 (by simp)
    simp only [List.getElem_cons_zero, List.getElem_cons_succ] at hT1
    have hH1 : heightT t1 ≤ Hh := by
      have := kid_h 28 n s [t0, t1] 1 (by simp)
      rw [HHQ.out]
      simp only [List.getElem_cons_zero, List.getElem_cons_succ] at this
      omega
    have hp1 := flat_pos t1
    obtain ⟨kb, ko, _, rfl, -⟩ := HKS.out.at_ (k := 0) (by simp)
    obtain ⟨fl, hfl⟩ : ∃ fl, fl = (flatAll [t0, t1]).length := ⟨_, rfl⟩
    rw [← hfl] at hxx ⊢
    have hfl0 : fl = (flat t0).length + (flat t1).length := by rw [hfl]; (simp only [flatAll_cons, flatAll_nil, List.append_nil, List.length_append] <;> omega)
    have hkl1 : kl = 2 := HKL.out
    have HFL := Lib.hid hfl
    clear hfl
    subst hkl1
    have q0 := HBX.out.cell 0
    have q1 := HBX.out.cell 1
    have q2 := HBX.out.cell 2
    have q3 := HBX.out.cell 3
    have q4 := HBX.out.cell 4
    simp only [List.getElem?_toArray, List.getElem?_cons_zero, List.getElem?_cons_succ] at q0 q1 q2 q3 q4
    have HCC := Lib.hid (HS.out.sub' (now' := now) (hh := Hh) (sz := 8 * fl) (fun Y hi hp => (while_any t0 t1 hT0 hT1 base g (X ++ Y) now hi Hh _ c1 2 W' hp.wr.wr hp.kd rfl hp.wr.bw hH0 hH1 (by rw [List.length_append]; have := hp.n; omega) (by omega) (by have := hp.wr.hi; have := hp.cap; omega) hh9).mono fun e W2 hw2 => by
      obtain ⟨Y2, hi2, h1, h2, h3, h4, h5, h6, h7⟩ := hw2
      exact ⟨Y2, hi2, h1, h2, h3, h4, by omega, h6, h7⟩) (Nat.le_refl _))
    go_wp2_with fail
    refine HCC.out.mono ?_
    rintro e W' ⟨rfl, hs', hf'⟩
    replace HS := Lib.hid hs'
    clear hs' hf' HCC HF q0 q1 q2 q3 q4
    have HFIN := Lib.hid ((HS.out.done (sz := 8 * (1 + fl) - 3) (by omega)).of HBW1.out HBW.out)
    rw [HFL.out] at HFIN
    go_wp2_with fail
    go_returns
    exact HFIN.out
set_option maxRecDepth 100000 in
set_option maxHeartbeats 8000000 in
theorem dd29 (kd : Int) (hkd : kd = 29) (n : Int) (s : List UInt8) (ks : List Tr) (hkz : ∀ t ∈ ks, t.kind ≠ 0) (hs : s.length ≤ 2000) (hk1 : ks.length = 2) (hw0 : ∀ i (h : i < ks.length), (i = 0 → WordOk ks[i]) ∧ (i ≠ 0 → DoOk ks[i])) : DoOk (.mk kd n s ks) := by
  have HKZ := Lib.hid hkz
  have HSL := Lib.hid hs
  have HKD := Lib.hid hkd
  have HK1 := Lib.hid hk1
  have HW0 := Lib.hid hw0
  clear hkz hs hkd hk1 hw0
  intro base g X now high v w h hv hbw hX hnow hhi
  rw [flat_size] at hX hnow ⊢
  have KC := Lib.hid (show ∀ W, SlRd W v (flat (.mk kd n s ks)) → Calls Tryd.prog 64 #[v] W (KidsRet (ks.map flat) W) from fun W h => by
    rw [← kidsL_flat kd n s ks]
    exact kids_any v _ W h (by rw [flat_size]; omega))
  have hH9 : now + heightT (.mk kd n s ks) ≤ 30000000 := by have := heightT_len (.mk kd n s ks); rw [flat_size] at this; omega
  have HV := Lib.hid hv.rd
  have HWR := Lib.hid h
  obtain ⟨A0, cp0, hve, hrd, hc0, hm0, -⟩ := hv.rd
  have h0 : 0 < (flat (.mk kd n s ks)).length := flat_pos _
  obtain ⟨b, o, rfl, hbl⟩ := hrd.addr h0
  have hx := hrd.at_ h0
  rw [show (flat (.mk kd n s ks))[0] = ⟨kd, n, ks.length, ((1 + (flatAll ks).length : Nat) : Int), s⟩ by simp [flat_mk]] at hx
  have d0 := hx.2 0 _ rfl
  have d1 := hx.2 1 _ rfl
  have d2 := hx.2 2 _ rfl
  have d3 := hx.2 3 _ rfl
  have d4 := hx.2 4 _ rfl
  simp only [Nat.zero_mul, Nat.add_zero] at d0 d1 d2 d3 d4
  subst hve
  obtain ⟨m, hml⟩ : ∃ m, m = (flat (.mk kd n s ks)).length := ⟨_, rfl⟩
  have hm1 : 0 < m := by omega
  rw [← hml] at KC HV ⊢
  have hkn := len_flatAll ks
  have HKN := Lib.hid hkn
  have HH9 := Lib.hid hH9
  have HXX := Lib.hid (And.intro hX (And.intro hnow hhi))
  have HBW := Lib.hid hbw
  obtain ⟨Hh, hHh⟩ : ∃ Hh, Hh = heightT (.mk kd n s ks) := ⟨_, rfl⟩
  rw [← hHh]
  rw [← hHh] at HH9
  have HHQ := Lib.hid hHh
  obtain ⟨Zk, hZk⟩ : ∃ Zk : Int, Zk = ks.length := ⟨_, rfl⟩
  obtain ⟨Zz, hZz⟩ : ∃ Zz : Int, Zz = ((1 + (flatAll ks).length : Nat) : Int) := ⟨_, rfl⟩
  rw [← hZk] at d2
  rw [← hZz] at d3
  have HZK := Lib.hid hZk
  obtain ⟨kl, hkl⟩ : ∃ kl, kl = ks.length := ⟨_, rfl⟩
  have HKL := Lib.hid hkl
  have HZZ := Lib.hid hZz
  clear hx hrd hc0 hm0 hkn hml h0 hv h hH9 hX hnow hhi hbw hHh hZk hZz hkl
  go_enter Tryd.func33, Tryd.ntmps33
  go_upto_region 0 with (fail)
  apply wp_region_relA 6 [eqT _, eqT _, eqT (.agg #[.int .i64 kd, .int .i64 n, .int .i64 Zk, .int .i64 Zz, .string ⟨s.toArray⟩]), eqT _, kidsG w.heap.size kl (ks.map flat), newG 98 #[.int .i64 0, .int .i64 0, .int .i64 0, .int .i64 0, .string ⟨#[]⟩] w.heap.size] (by kernel_rfl) (by kernel_rfl) (by kernel_rfl) rfl
  focus
    refine ⟨?_, ?_⟩
    focus
      unfold opGoal
      rw [if_pos (by kernel_rfl)]
      intro x hb hd K hk
      clear hd
      go_wp2_with fail
      exact hk _ _ rfl trivial (Below.refl _ _)
    rintro _ rfl
    simp only [Act.put, List.setIfInBounds_toArray, List.set_cons_succ, List.set_cons_zero]
    refine ⟨?_, ?_⟩
    focus
      unfold opGoal
      rw [if_pos (by kernel_rfl)]
      intro x hb hd K hk
      clear hd
      go_wp2_with fail
      exact hk _ _ rfl trivial (Below.refl _ _)
    rintro _ rfl
    simp only [Act.put, List.setIfInBounds_toArray, List.set_cons_succ, List.set_cons_zero]
    refine ⟨?_, ?_⟩
    focus
      unfold opGoal
      rw [if_pos (by kernel_rfl)]
      intro x hb hd K hk
      clear hd
      have l0 := cell_keep hb d0
      have l1 := cell_keep hb d1
      have l2 := cell_keep hb d2
      have l3 := cell_keep hb d3
      have l4 := cell_keep hb d4
      go_wp2_with fail
      exact hk _ _ rfl trivial (Below.refl _ _)
    rintro _ rfl
    simp only [Act.put, List.setIfInBounds_toArray, List.set_cons_succ, List.set_cons_zero]
    refine ⟨?_, ?_⟩
    focus
      unfold opGoal
      rw [if_pos (by kernel_rfl)]
      intro x hb hd K hk
      clear hd
      go_wp2_with fail
      exact hk _ _ rfl trivial (Below.refl _ _)
    rintro _ rfl
    simp only [Act.put, List.setIfInBounds_toArray, List.set_cons_succ, List.set_cons_zero]
    refine ⟨?_, ?_⟩
    focus
      unfold opGoal
      rw [if_pos (by kernel_rfl)]
      intro x hb hd K hk
      clear hd
      have hsz := hb.size
      have HC := Lib.hid (KC.out x (HV.out.below hb))
      go_wp2_with fail
      refine HC.out.mono ?_
      rintro e x' ⟨A1, c1, vs, rfl, ho, ha, hb'⟩
      rw [List.length_map, ← HKL.out] at ho ⊢
      obtain ⟨A', c', he, hnc, -⟩ := own_form ho
      injection he with he1 _ he3
      subst he1 he3
      exact hk _ _ ⟨_, _, rfl⟩ ⟨A1, c1, vs, rfl, hnc, own_mono ho hsz, ha.mono hsz⟩ hb'
    rintro _ ⟨A1, c1, rfl⟩
    simp only [Act.put, List.setIfInBounds_toArray, List.set_cons_succ, List.set_cons_zero]
    refine ⟨?_, ?_⟩
    focus
      unfold opGoal
      rw [if_pos (by kernel_rfl)]
      intro x hb hd K hk
      clear hd
      go_wp2_with fail
      refine hk _ _ ⟨_, rfl⟩ ?_ ((Below.refl _ _).alloc (Nat.le_refl _) _)
      intro g' hg
      injection hg with hg
      injection hg with hg
      injection hg with hg
      subst hg
      exact ⟨Blk.new x _ _, hb.size⟩
    rintro _ ⟨gx, rfl⟩
    simp only [Act.put, List.setIfInBounds_toArray, List.set_cons_succ, List.set_cons_zero]
    intro y hby hf
    simp only [List.drop_succ_cons, List.drop_zero]
    have hk4 := hf 4 (kidsG w.heap.size kl (ks.map flat)) (.slice A1 kl c1) (by kernel_rfl) (by kernel_rfl)
    obtain ⟨hg5, hgw⟩ := (hf 5 (newG 98 #[.int .i64 0, .int .i64 0, .int .i64 0, .int .i64 0, .string ⟨#[]⟩] w.heap.size) (.pointer (some ⟨gx, 0, none⟩)) (by kernel_rfl) (by kernel_rfl)) gx rfl
    obtain ⟨_, _, vs4, he4, hcl, ho4, ha4⟩ := hk4
    injection he4 with he4 _ he5
    subst he4 he5
    have z0 := hg5.cell 0
    have z1 := hg5.cell 1
    have z2 := hg5.cell 2
    have z3 := hg5.cell 3
    have z4 := hg5.cell 4
    have y0 := hg5.frozen 0
    have y1 := hg5.frozen 1
    have y2 := hg5.frozen 2
    have y3 := hg5.frozen 3
    have y4 := hg5.frozen 4
    simp only [List.getElem?_toArray, List.getElem?_cons_zero, List.getElem?_cons_succ] at z0 z1 z2 z3 z4
    clear hf KC d0 d1 d2 d3 d4 hbl hm1
    have HQ5 := Lib.hid hg5
    have HO4 := Lib.hid ho4
    have HA4 := Lib.hid ha4
    have HBY := Lib.hid hby
    clear hg5 ho4 ha4 hby
    go_upto_region 1 with (fail)
    obtain ⟨W', hW1⟩ : ∃ W', W' = (((((y.setCell ⟨gx, 0, none⟩ (.int .i64 kd)).setCell ⟨gx, 1, none⟩ (.int .i64 n)).setCell ⟨gx, 2, none⟩ (.int .i64 Zk)).setCell ⟨gx, 3, none⟩ (.int .i64 Zz)).setCell ⟨gx, 4, none⟩ (.string ⟨s.toArray⟩)) := ⟨_, rfl⟩
    rw [← hW1]
    have hB1 : But gx y W' := by
      rw [hW1]
      exact ((((But.set y 0 _).trans (But.set _ 1 _)).trans (But.set _ 2 _)).trans (But.set _ 3 _)).trans (But.set _ 4 _)
    have HBX := Lib.hid (show Blk W' gx 98 #[.int .i64 kd, .int .i64 n, .int .i64 Zk, .int .i64 Zz, .string ⟨s.toArray⟩] from by
      rw [hW1]
      simpa using ((((HQ5.out.set 0 (.int .i64 kd)).set 1 (.int .i64 n)).set 2 (.int .i64 Zk)).set 3 (.int .i64 Zz)).set 4 (.string ⟨s.toArray⟩))
    have HBW1 := Lib.hid (show Below w.heap.size w W' from HBY.out.trans (hB1.below hgw HBY.out.size))
    have HKS := Lib.hid (show KdS base W' A1 (ks.map flat) from KdS.of_own (own_but HO4.out hB1 HQ5.out (by decide)) (by rw [List.length_map]; exact HKL.out) (kids_ne HA4.out HQ5.out hB1 HKZ.out))
    have HS := Lib.hid (St.start (H := Hh) (HWR.out.below HBW1.out) HKS.out (Nat.le_trans HBW.out HBW1.out.size) ⟨HXX.out.2.2, HH9.out⟩)
    have HF := Lib.hid (FrW.refl base W')
    clear hW1 hB1 z0 z1 z2 z3 z4 y0 y1 y2 y3 y4 HO4 HA4 HQ5
    have hxx := HXX.out
    have hh9 := HH9.out
    have hkd := HKD.out
    subst hkd
    obtain ⟨t0, t1, rfl⟩ : ∃ t0 t1, ks = [t0, t1] := by
      match ks, HK1.out with
      | [t0, t1], _ => exact ⟨t0, t1, rfl⟩
    have hT0 := HW0.out 0 (by simp)
    simp only [List.getElem_cons_zero, List.getElem_cons_succ] at hT0
    replace hT0 := hT0.1 (by trivial)
    have hH0 : heightT t0 ≤ Hh := by
      have := kid_h 29 n s [t0, t1] 0 (by simp)
      rw [HHQ.out]
      simp only [List.getElem_cons_zero, List.getElem_cons_succ] at this
      omega
    have hp0 := flat_pos t0
    have hT1 := HW0.out 1 (by simp)
    simp only [List.getElem_cons_zero, List.getElem_cons_succ] at hT1
    replace hT1 := hT1.2 (by simp)
    have hH1 : heightT t1 ≤ Hh := by
      have := kid_h 29 n s [t0, t1] 1 (by simp)
      rw [HHQ.out]
      simp only [List.getElem_cons_zero, List.getElem_cons_succ] at this
      omega
    have hp1 := flat_pos t1
    obtain ⟨kb, ko, _, rfl, -⟩ := HKS.out.at_ (k := 0) (by simp)
    obtain ⟨fl, hfl⟩ : ∃ fl, fl = (flatAll [t0, t1]).length := ⟨_, rfl⟩
    rw [← hfl] at hxx ⊢
    have hfl0 : fl = (flat t0).length + (flat t1).length := by rw [hfl]; (simp only [flatAll_cons, flatAll_nil, List.append_nil, List.length_append] <;> omega)
    have hkl1 : kl = 2 := HKL.out
    have HFL := Lib.hid hfl
    clear hfl
    subst hkl1
    have q0 := HBX.out.cell 0
    have q1 := HBX.out.cell 1
    have q2 := HBX.out.cell 2
    have q3 := HBX.out.cell 3
    have q4 := HBX.out.cell 4
    simp only [List.getElem?_toArray, List.getElem?_cons_zero, List.getElem?_cons_succ] at q0 q1 q2 q3 q4
    have HCC := Lib.hid (HS.out.sub' (now' := now) (hh := Hh) (sz := 8 * fl) (fun Y hi hp => (each_any t0 t1 hT0 hT1 s HSL.out base g (X ++ Y) now hi Hh _ c1 2 W' hp.wr.wr hp.kd rfl hp.wr.bw hH0 hH1 (by rw [List.length_append]; have := hp.n; omega) (by omega) (by have := hp.wr.hi; have := hp.cap; omega) hh9).mono fun e W2 hw2 => by
      obtain ⟨Y2, hi2, h1, h2, h3, h4, h5, h6, h7⟩ := hw2
      exact ⟨Y2, hi2, h1, h2, h3, h4, by omega, h6, h7⟩) (Nat.le_refl _))
    go_wp2_with fail
    refine HCC.out.mono ?_
    rintro e W' ⟨rfl, hs', hf'⟩
    replace HS := Lib.hid hs'
    clear hs' hf' HCC HF q0 q1 q2 q3 q4
    have HFIN := Lib.hid ((HS.out.done (sz := 8 * (1 + fl) - 3) (by omega)).of HBW1.out HBW.out)
    rw [HFL.out] at HFIN
    go_wp2_with fail
    go_returns
    exact HFIN.out
set_option maxRecDepth 100000 in
set_option maxHeartbeats 8000000 in
theorem dd23 (kd : Int) (hkd : kd = 23) (n : Int) (s : List UInt8) (ks : List Tr) (hkz : ∀ t ∈ ks, t.kind ≠ 0) (hs : s.length ≤ 2000) (hk1 : 0 < ks.length) (hw0 : ∀ i (h : i < ks.length), DoOk ks[i]) : DoOk (.mk kd n s ks) := by
  have HKZ := Lib.hid hkz
  have HSL := Lib.hid hs
  have HKD := Lib.hid hkd
  have HK1 := Lib.hid hk1
  have HW0 := Lib.hid hw0
  clear hkz hs hkd hk1 hw0
  intro base g X now high v w h hv hbw hX hnow hhi
  rw [flat_size] at hX hnow ⊢
  have KC := Lib.hid (show ∀ W, SlRd W v (flat (.mk kd n s ks)) → Calls Tryd.prog 64 #[v] W (KidsRet (ks.map flat) W) from fun W h => by
    rw [← kidsL_flat kd n s ks]
    exact kids_any v _ W h (by rw [flat_size]; omega))
  have hH9 : now + heightT (.mk kd n s ks) ≤ 30000000 := by have := heightT_len (.mk kd n s ks); rw [flat_size] at this; omega
  have HV := Lib.hid hv.rd
  have HWR := Lib.hid h
  obtain ⟨A0, cp0, hve, hrd, hc0, hm0, -⟩ := hv.rd
  have h0 : 0 < (flat (.mk kd n s ks)).length := flat_pos _
  obtain ⟨b, o, rfl, hbl⟩ := hrd.addr h0
  have hx := hrd.at_ h0
  rw [show (flat (.mk kd n s ks))[0] = ⟨kd, n, ks.length, ((1 + (flatAll ks).length : Nat) : Int), s⟩ by simp [flat_mk]] at hx
  have d0 := hx.2 0 _ rfl
  have d1 := hx.2 1 _ rfl
  have d2 := hx.2 2 _ rfl
  have d3 := hx.2 3 _ rfl
  have d4 := hx.2 4 _ rfl
  simp only [Nat.zero_mul, Nat.add_zero] at d0 d1 d2 d3 d4
  subst hve
  obtain ⟨m, hml⟩ : ∃ m, m = (flat (.mk kd n s ks)).length := ⟨_, rfl⟩
  have hm1 : 0 < m := by omega
  rw [← hml] at KC HV ⊢
  have hkn := len_flatAll ks
  have HKN := Lib.hid hkn
  have HH9 := Lib.hid hH9
  have HXX := Lib.hid (And.intro hX (And.intro hnow hhi))
  have HBW := Lib.hid hbw
  obtain ⟨Hh, hHh⟩ : ∃ Hh, Hh = heightT (.mk kd n s ks) := ⟨_, rfl⟩
  rw [← hHh]
  rw [← hHh] at HH9
  have HHQ := Lib.hid hHh
  obtain ⟨Zk, hZk⟩ : ∃ Zk : Int, Zk = ks.length := ⟨_, rfl⟩
  obtain ⟨Zz, hZz⟩ : ∃ Zz : Int, Zz = ((1 + (flatAll ks).length : Nat) : Int) := ⟨_, rfl⟩
  rw [← hZk] at d2
  rw [← hZz] at d3
  have HZK := Lib.hid hZk
  obtain ⟨kl, hkl⟩ : ∃ kl, kl = ks.length := ⟨_, rfl⟩
  have HKL := Lib.hid hkl
  have HZZ := Lib.hid hZz
  clear hx hrd hc0 hm0 hkn hml h0 hv h hH9 hX hnow hhi hbw hHh hZk hZz hkl
  go_enter Tryd.func33, Tryd.ntmps33
  go_upto_region 0 with (fail)
  apply wp_region_relA 6 [eqT _, eqT _, eqT (.agg #[.int .i64 kd, .int .i64 n, .int .i64 Zk, .int .i64 Zz, .string ⟨s.toArray⟩]), eqT _, kidsG w.heap.size kl (ks.map flat), newG 98 #[.int .i64 0, .int .i64 0, .int .i64 0, .int .i64 0, .string ⟨#[]⟩] w.heap.size] (by kernel_rfl) (by kernel_rfl) (by kernel_rfl) rfl
  focus
    refine ⟨?_, ?_⟩
    focus
      unfold opGoal
      rw [if_pos (by kernel_rfl)]
      intro x hb hd K hk
      clear hd
      go_wp2_with fail
      exact hk _ _ rfl trivial (Below.refl _ _)
    rintro _ rfl
    simp only [Act.put, List.setIfInBounds_toArray, List.set_cons_succ, List.set_cons_zero]
    refine ⟨?_, ?_⟩
    focus
      unfold opGoal
      rw [if_pos (by kernel_rfl)]
      intro x hb hd K hk
      clear hd
      go_wp2_with fail
      exact hk _ _ rfl trivial (Below.refl _ _)
    rintro _ rfl
    simp only [Act.put, List.setIfInBounds_toArray, List.set_cons_succ, List.set_cons_zero]
    refine ⟨?_, ?_⟩
    focus
      unfold opGoal
      rw [if_pos (by kernel_rfl)]
      intro x hb hd K hk
      clear hd
      have l0 := cell_keep hb d0
      have l1 := cell_keep hb d1
      have l2 := cell_keep hb d2
      have l3 := cell_keep hb d3
      have l4 := cell_keep hb d4
      go_wp2_with fail
      exact hk _ _ rfl trivial (Below.refl _ _)
    rintro _ rfl
    simp only [Act.put, List.setIfInBounds_toArray, List.set_cons_succ, List.set_cons_zero]
    refine ⟨?_, ?_⟩
    focus
      unfold opGoal
      rw [if_pos (by kernel_rfl)]
      intro x hb hd K hk
      clear hd
      go_wp2_with fail
      exact hk _ _ rfl trivial (Below.refl _ _)
    rintro _ rfl
    simp only [Act.put, List.setIfInBounds_toArray, List.set_cons_succ, List.set_cons_zero]
    refine ⟨?_, ?_⟩
    focus
      unfold opGoal
      rw [if_pos (by kernel_rfl)]
      intro x hb hd K hk
      clear hd
      have hsz := hb.size
      have HC := Lib.hid (KC.out x (HV.out.below hb))
      go_wp2_with fail
      refine HC.out.mono ?_
      rintro e x' ⟨A1, c1, vs, rfl, ho, ha, hb'⟩
      rw [List.length_map, ← HKL.out] at ho ⊢
      obtain ⟨A', c', he, hnc, -⟩ := own_form ho
      injection he with he1 _ he3
      subst he1 he3
      exact hk _ _ ⟨_, _, rfl⟩ ⟨A1, c1, vs, rfl, hnc, own_mono ho hsz, ha.mono hsz⟩ hb'
    rintro _ ⟨A1, c1, rfl⟩
    simp only [Act.put, List.setIfInBounds_toArray, List.set_cons_succ, List.set_cons_zero]
    refine ⟨?_, ?_⟩
    focus
      unfold opGoal
      rw [if_pos (by kernel_rfl)]
      intro x hb hd K hk
      clear hd
      go_wp2_with fail
      refine hk _ _ ⟨_, rfl⟩ ?_ ((Below.refl _ _).alloc (Nat.le_refl _) _)
      intro g' hg
      injection hg with hg
      injection hg with hg
      injection hg with hg
      subst hg
      exact ⟨Blk.new x _ _, hb.size⟩
    rintro _ ⟨gx, rfl⟩
    simp only [Act.put, List.setIfInBounds_toArray, List.set_cons_succ, List.set_cons_zero]
    intro y hby hf
    simp only [List.drop_succ_cons, List.drop_zero]
    have hk4 := hf 4 (kidsG w.heap.size kl (ks.map flat)) (.slice A1 kl c1) (by kernel_rfl) (by kernel_rfl)
    obtain ⟨hg5, hgw⟩ := (hf 5 (newG 98 #[.int .i64 0, .int .i64 0, .int .i64 0, .int .i64 0, .string ⟨#[]⟩] w.heap.size) (.pointer (some ⟨gx, 0, none⟩)) (by kernel_rfl) (by kernel_rfl)) gx rfl
    obtain ⟨_, _, vs4, he4, hcl, ho4, ha4⟩ := hk4
    injection he4 with he4 _ he5
    subst he4 he5
    have z0 := hg5.cell 0
    have z1 := hg5.cell 1
    have z2 := hg5.cell 2
    have z3 := hg5.cell 3
    have z4 := hg5.cell 4
    have y0 := hg5.frozen 0
    have y1 := hg5.frozen 1
    have y2 := hg5.frozen 2
    have y3 := hg5.frozen 3
    have y4 := hg5.frozen 4
    simp only [List.getElem?_toArray, List.getElem?_cons_zero, List.getElem?_cons_succ] at z0 z1 z2 z3 z4
    clear hf KC d0 d1 d2 d3 d4 hbl hm1
    have HQ5 := Lib.hid hg5
    have HO4 := Lib.hid ho4
    have HA4 := Lib.hid ha4
    have HBY := Lib.hid hby
    clear hg5 ho4 ha4 hby
    go_upto_region 1 with (fail)
    obtain ⟨W', hW1⟩ : ∃ W', W' = (((((y.setCell ⟨gx, 0, none⟩ (.int .i64 kd)).setCell ⟨gx, 1, none⟩ (.int .i64 n)).setCell ⟨gx, 2, none⟩ (.int .i64 Zk)).setCell ⟨gx, 3, none⟩ (.int .i64 Zz)).setCell ⟨gx, 4, none⟩ (.string ⟨s.toArray⟩)) := ⟨_, rfl⟩
    rw [← hW1]
    have hB1 : But gx y W' := by
      rw [hW1]
      exact ((((But.set y 0 _).trans (But.set _ 1 _)).trans (But.set _ 2 _)).trans (But.set _ 3 _)).trans (But.set _ 4 _)
    have HBX := Lib.hid (show Blk W' gx 98 #[.int .i64 kd, .int .i64 n, .int .i64 Zk, .int .i64 Zz, .string ⟨s.toArray⟩] from by
      rw [hW1]
      simpa using ((((HQ5.out.set 0 (.int .i64 kd)).set 1 (.int .i64 n)).set 2 (.int .i64 Zk)).set 3 (.int .i64 Zz)).set 4 (.string ⟨s.toArray⟩))
    have HBW1 := Lib.hid (show Below w.heap.size w W' from HBY.out.trans (hB1.below hgw HBY.out.size))
    have HKS := Lib.hid (show KdS base W' A1 (ks.map flat) from KdS.of_own (own_but HO4.out hB1 HQ5.out (by decide)) (by rw [List.length_map]; exact HKL.out) (kids_ne HA4.out HQ5.out hB1 HKZ.out))
    have HS := Lib.hid (St.start (H := Hh) (HWR.out.below HBW1.out) HKS.out (Nat.le_trans HBW.out HBW1.out.size) ⟨HXX.out.2.2, HH9.out⟩)
    have HF := Lib.hid (FrW.refl base W')
    clear hW1 hB1 z0 z1 z2 z3 z4 y0 y1 y2 y3 y4 HO4 HA4 HQ5
    have hxx := HXX.out
    have hh9 := HH9.out
    have hkd := HKD.out
    subst hkd
    have HHH := Lib.hid (show ∀ i (h : i < ks.length), heightT ks[i] ≤ Hh from fun i h => by
      have := kid_h 23 n s ks i h
      rw [HHQ.out]
      omega)
    have h0l : 0 < (ks.map flat).length := by
      have := HK1.out
      simpa using this
    obtain ⟨kb, ko, _, rfl, -⟩ := HKS.out.at_ (k := 0) h0l
    have hk8 : kl ≤ 30000000 := by have := HKN.out; have := HKL.out; omega
    clear h0l
    obtain ⟨fl, hfl⟩ : ∃ fl, fl = (flatAll ks).length := ⟨_, rfl⟩
    have HFL := Lib.hid hfl
    rw [← hfl] at hxx ⊢
    clear hfl
    have q0 := HBX.out.cell 0
    have q1 := HBX.out.cell 1
    have q2 := HBX.out.cell 2
    have q3 := HBX.out.cell 3
    have q4 := HBX.out.cell 4
    simp only [List.getElem?_toArray, List.getElem?_cons_zero, List.getElem?_cons_succ] at q0 q1 q2 q3 q4
    have HS1 := Lib.hid (HS.out.weak (lo' := X.length) (n' := 8 * sumT ks 0) (Nat.le_refl _) (Nat.zero_le _))
    clear HS HF
    go_wp2_with fail
    go_loopw [37] (fun i wr => ∃ q : Nat, q ≤ kl ∧ i = .int .i64 q ∧ Hid (St base g X now high Hh W' (some ⟨kb, ko, none⟩) (ks.map flat) wr now X.length (8 * sumT ks q))) (fun i _ => kl - (intOf i).toNat)
    case atStart => exact ⟨0, Nat.zero_le _, rfl, HS1⟩
    case round =>
      obtain ⟨q, hq, rfl, HS⟩ := hrel
      clear HS1 q0 q1 q2 q3 q4
      have HF := Lib.hid (FrW.refl base wr)
      by_cases hlt : q < kl
      · have hqk : q < ks.length := by rw [← HKL.out]; exact hlt
        have hsum := sumT_succ ks q hqk
        have hsl := sumT_le ks (q + 1)
        rw [← HFL.out] at hsl
        have hHq := HHH.out q hqk
        have hDq := HW0.out q hqk
        obtain ⟨t, ht⟩ : ∃ t, t = ks[q] := ⟨_, rfl⟩
        rw [← ht] at hsum hHq hDq
        have HKk := Lib.hid (show q < (ks.map flat).length from by simpa using hqk)
        have HL1 := Lib.hid (show ∀ h : q < (ks.map flat).length, (ks.map flat)[q] = flat t from fun h => by rw [ht]; simp)
        have hpt := flat_pos t
        clear ht hqk
        obtain ⟨Av, nv, cv, hkc, hcc⟩ := (HS.out.do_ (k := q) hDq HKk.out (HL1.out _) (by omega) (by omega) (by omega))
        have HCC := Lib.hid hcc
        clear hcc
        first | (simp only [Nat.add_zero] at hkc) | skip
        go_wp2_with fail
        refine HCC.out.mono ?_
        rintro e W' ⟨rfl, hs', hf'⟩
        replace HS := Lib.hid hs'
        replace HF := Lib.hid (HF.out.trans hf')
        clear hs' hf' HCC hkc
        have HSF := Lib.hid (HS.out.weak (lo' := X.length) (n' := 8 * sumT ks (q + 1)) (by omega) (by omega))
        clear HS HF
        go_wp2_with fail
        go_roundw
        case rel => exact ⟨q + 1, by omega, by go_num, HSF⟩
        case measure => simp [intOf]; omega
      · obtain rfl : q = kl := by omega
        have hs9 : sumT ks q = fl := by
          unfold sumT
          rw [List.take_of_length_le (by rw [← HKL.out]; exact Nat.le_refl _), HFL.out]
        rw [hs9] at HS
        have HFIN := Lib.hid ((HS.out.done (sz := 8 * (1 + fl) - 3) (by omega)).of HBW1.out HBW.out)
        rw [HFL.out] at HFIN
        go_wp2_with fail
        go_returns
        exact HFIN.out
set_option maxRecDepth 100000 in
set_option maxHeartbeats 8000000 in
theorem ddtk (kd : Int) (hkd : kd = 21 ∨ kd = 22 ∨ (30 ≤ kd ∧ kd ≤ 37)) (n : Int) (s : List UInt8) (ks : List Tr) (hkz : ∀ t ∈ ks, t.kind ≠ 0) (hs : s.length ≤ 2000) (htk : TkOk kd n s ks) : DoOk (.mk kd n s ks) := by
  have HKZ := Lib.hid hkz
  have HSL := Lib.hid hs
  have HKD := Lib.hid hkd
  have HTK := Lib.hid htk
  clear hkz hs hkd htk
  intro base g X now high v w h hv hbw hX hnow hhi
  rw [flat_size] at hX hnow ⊢
  have KC := Lib.hid (show ∀ W, SlRd W v (flat (.mk kd n s ks)) → Calls Tryd.prog 64 #[v] W (KidsRet (ks.map flat) W) from fun W h => by
    rw [← kidsL_flat kd n s ks]
    exact kids_any v _ W h (by rw [flat_size]; omega))
  have hH9 : now + heightT (.mk kd n s ks) ≤ 30000000 := by have := heightT_len (.mk kd n s ks); rw [flat_size] at this; omega
  have HV := Lib.hid hv.rd
  have HWR := Lib.hid h
  obtain ⟨A0, cp0, hve, hrd, hc0, hm0, -⟩ := hv.rd
  have h0 : 0 < (flat (.mk kd n s ks)).length := flat_pos _
  obtain ⟨b, o, rfl, hbl⟩ := hrd.addr h0
  have hx := hrd.at_ h0
  rw [show (flat (.mk kd n s ks))[0] = ⟨kd, n, ks.length, ((1 + (flatAll ks).length : Nat) : Int), s⟩ by simp [flat_mk]] at hx
  have d0 := hx.2 0 _ rfl
  have d1 := hx.2 1 _ rfl
  have d2 := hx.2 2 _ rfl
  have d3 := hx.2 3 _ rfl
  have d4 := hx.2 4 _ rfl
  simp only [Nat.zero_mul, Nat.add_zero] at d0 d1 d2 d3 d4
  subst hve
  obtain ⟨m, hml⟩ : ∃ m, m = (flat (.mk kd n s ks)).length := ⟨_, rfl⟩
  have hm1 : 0 < m := by omega
  rw [← hml] at KC HV ⊢
  have hkn := len_flatAll ks
  have HKN := Lib.hid hkn
  have HH9 := Lib.hid hH9
  have HXX := Lib.hid (And.intro hX (And.intro hnow hhi))
  have HBW := Lib.hid hbw
  obtain ⟨Hh, hHh⟩ : ∃ Hh, Hh = heightT (.mk kd n s ks) := ⟨_, rfl⟩
  rw [← hHh]
  rw [← hHh] at HH9
  have HHQ := Lib.hid hHh
  obtain ⟨Zk, hZk⟩ : ∃ Zk : Int, Zk = ks.length := ⟨_, rfl⟩
  obtain ⟨Zz, hZz⟩ : ∃ Zz : Int, Zz = ((1 + (flatAll ks).length : Nat) : Int) := ⟨_, rfl⟩
  rw [← hZk] at d2
  rw [← hZz] at d3
  have HZK := Lib.hid hZk
  obtain ⟨kl, hkl⟩ : ∃ kl, kl = ks.length := ⟨_, rfl⟩
  have HKL := Lib.hid hkl
  have HZZ := Lib.hid hZz
  clear hx hrd hc0 hm0 hkn hml h0 hv h hH9 hX hnow hhi hbw hHh hZk hZz hkl
  go_enter Tryd.func33, Tryd.ntmps33
  go_upto_region 0 with (fail)
  apply wp_region_relA 6 [eqT _, eqT _, eqT (.agg #[.int .i64 kd, .int .i64 n, .int .i64 Zk, .int .i64 Zz, .string ⟨s.toArray⟩]), eqT _, kidsG w.heap.size kl (ks.map flat), newG 98 #[.int .i64 0, .int .i64 0, .int .i64 0, .int .i64 0, .string ⟨#[]⟩] w.heap.size] (by kernel_rfl) (by kernel_rfl) (by kernel_rfl) rfl
  focus
    refine ⟨?_, ?_⟩
    focus
      unfold opGoal
      rw [if_pos (by kernel_rfl)]
      intro x hb hd K hk
      clear hd
      go_wp2_with fail
      exact hk _ _ rfl trivial (Below.refl _ _)
    rintro _ rfl
    simp only [Act.put, List.setIfInBounds_toArray, List.set_cons_succ, List.set_cons_zero]
    refine ⟨?_, ?_⟩
    focus
      unfold opGoal
      rw [if_pos (by kernel_rfl)]
      intro x hb hd K hk
      clear hd
      go_wp2_with fail
      exact hk _ _ rfl trivial (Below.refl _ _)
    rintro _ rfl
    simp only [Act.put, List.setIfInBounds_toArray, List.set_cons_succ, List.set_cons_zero]
    refine ⟨?_, ?_⟩
    focus
      unfold opGoal
      rw [if_pos (by kernel_rfl)]
      intro x hb hd K hk
      clear hd
      have l0 := cell_keep hb d0
      have l1 := cell_keep hb d1
      have l2 := cell_keep hb d2
      have l3 := cell_keep hb d3
      have l4 := cell_keep hb d4
      go_wp2_with fail
      exact hk _ _ rfl trivial (Below.refl _ _)
    rintro _ rfl
    simp only [Act.put, List.setIfInBounds_toArray, List.set_cons_succ, List.set_cons_zero]
    refine ⟨?_, ?_⟩
    focus
      unfold opGoal
      rw [if_pos (by kernel_rfl)]
      intro x hb hd K hk
      clear hd
      go_wp2_with fail
      exact hk _ _ rfl trivial (Below.refl _ _)
    rintro _ rfl
    simp only [Act.put, List.setIfInBounds_toArray, List.set_cons_succ, List.set_cons_zero]
    refine ⟨?_, ?_⟩
    focus
      unfold opGoal
      rw [if_pos (by kernel_rfl)]
      intro x hb hd K hk
      clear hd
      have hsz := hb.size
      have HC := Lib.hid (KC.out x (HV.out.below hb))
      go_wp2_with fail
      refine HC.out.mono ?_
      rintro e x' ⟨A1, c1, vs, rfl, ho, ha, hb'⟩
      rw [List.length_map, ← HKL.out] at ho ⊢
      obtain ⟨A', c', he, hnc, -⟩ := own_form ho
      injection he with he1 _ he3
      subst he1 he3
      exact hk _ _ ⟨_, _, rfl⟩ ⟨A1, c1, vs, rfl, hnc, own_mono ho hsz, ha.mono hsz⟩ hb'
    rintro _ ⟨A1, c1, rfl⟩
    simp only [Act.put, List.setIfInBounds_toArray, List.set_cons_succ, List.set_cons_zero]
    refine ⟨?_, ?_⟩
    focus
      unfold opGoal
      rw [if_pos (by kernel_rfl)]
      intro x hb hd K hk
      clear hd
      go_wp2_with fail
      refine hk _ _ ⟨_, rfl⟩ ?_ ((Below.refl _ _).alloc (Nat.le_refl _) _)
      intro g' hg
      injection hg with hg
      injection hg with hg
      injection hg with hg
      subst hg
      exact ⟨Blk.new x _ _, hb.size⟩
    rintro _ ⟨gx, rfl⟩
    simp only [Act.put, List.setIfInBounds_toArray, List.set_cons_succ, List.set_cons_zero]
    intro y hby hf
    simp only [List.drop_succ_cons, List.drop_zero]
    have hk4 := hf 4 (kidsG w.heap.size kl (ks.map flat)) (.slice A1 kl c1) (by kernel_rfl) (by kernel_rfl)
    obtain ⟨hg5, hgw⟩ := (hf 5 (newG 98 #[.int .i64 0, .int .i64 0, .int .i64 0, .int .i64 0, .string ⟨#[]⟩] w.heap.size) (.pointer (some ⟨gx, 0, none⟩)) (by kernel_rfl) (by kernel_rfl)) gx rfl
    obtain ⟨_, _, vs4, he4, hcl, ho4, ha4⟩ := hk4
    injection he4 with he4 _ he5
    subst he4 he5
    have z0 := hg5.cell 0
    have z1 := hg5.cell 1
    have z2 := hg5.cell 2
    have z3 := hg5.cell 3
    have z4 := hg5.cell 4
    have y0 := hg5.frozen 0
    have y1 := hg5.frozen 1
    have y2 := hg5.frozen 2
    have y3 := hg5.frozen 3
    have y4 := hg5.frozen 4
    simp only [List.getElem?_toArray, List.getElem?_cons_zero, List.getElem?_cons_succ] at z0 z1 z2 z3 z4
    clear hf KC d0 d1 d2 d3 d4 hbl hm1
    have HQ5 := Lib.hid hg5
    have HO4 := Lib.hid ho4
    have HA4 := Lib.hid ha4
    have HBY := Lib.hid hby
    clear hg5 ho4 ha4 hby
    go_upto_region 1 with (fail)
    obtain ⟨W', hW1⟩ : ∃ W', W' = (((((y.setCell ⟨gx, 0, none⟩ (.int .i64 kd)).setCell ⟨gx, 1, none⟩ (.int .i64 n)).setCell ⟨gx, 2, none⟩ (.int .i64 Zk)).setCell ⟨gx, 3, none⟩ (.int .i64 Zz)).setCell ⟨gx, 4, none⟩ (.string ⟨s.toArray⟩)) := ⟨_, rfl⟩
    rw [← hW1]
    have hB1 : But gx y W' := by
      rw [hW1]
      exact ((((But.set y 0 _).trans (But.set _ 1 _)).trans (But.set _ 2 _)).trans (But.set _ 3 _)).trans (But.set _ 4 _)
    have HBX := Lib.hid (show Blk W' gx 98 #[.int .i64 kd, .int .i64 n, .int .i64 Zk, .int .i64 Zz, .string ⟨s.toArray⟩] from by
      rw [hW1]
      simpa using ((((HQ5.out.set 0 (.int .i64 kd)).set 1 (.int .i64 n)).set 2 (.int .i64 Zk)).set 3 (.int .i64 Zz)).set 4 (.string ⟨s.toArray⟩))
    have HBW1 := Lib.hid (show Below w.heap.size w W' from HBY.out.trans (hB1.below hgw HBY.out.size))
    have HKS := Lib.hid (show KdS base W' A1 (ks.map flat) from KdS.of_own (own_but HO4.out hB1 HQ5.out (by decide)) (by rw [List.length_map]; exact HKL.out) (kids_ne HA4.out HQ5.out hB1 HKZ.out))
    have HS := Lib.hid (St.start (H := Hh) (HWR.out.below HBW1.out) HKS.out (Nat.le_trans HBW.out HBW1.out.size) ⟨HXX.out.2.2, HH9.out⟩)
    have HF := Lib.hid (FrW.refl base W')
    clear hW1 hB1 z0 z1 z2 z3 z4 y0 y1 y2 y3 y4 HO4 HA4 HQ5
    have hxx := HXX.out
    have hh9 := HH9.out
    have hkd := HKD.out
    obtain ⟨fl, hfl⟩ : ∃ fl, fl = (flatAll ks).length := ⟨_, rfl⟩
    have HFL := Lib.hid hfl
    rw [← hfl] at hxx ⊢
    clear hfl
    have q0 := HBX.out.cell 0
    have q1 := HBX.out.cell 1
    have q2 := HBX.out.cell 2
    have q3 := HBX.out.cell 3
    have q4 := HBX.out.cell 4
    simp only [List.getElem?_toArray, List.getElem?_cons_zero, List.getElem?_cons_succ] at q0 q1 q2 q3 q4
    have b0 : (kd == 20) = false := by simp; omega
    have b1 : (kd == 23) = false := by simp; omega
    have b2 : (kd == 24) = false := by simp; omega
    have b3 : (kd == 25) = false := by simp; omega
    have b4 : (kd == 26) = false := by simp; omega
    have b5 : (kd == 27) = false := by simp; omega
    have b6 : (kd == 28) = false := by simp; omega
    have b7 : (kd == 29) = false := by simp; omega
    clear hkd
    have HCC := Lib.hid (HS.out.op_ 14 0 0 [] (fun m _ => by simp [okI, placeA, placeB, countA]) (by omega))
    go_wp2_with fail
    refine HCC.out.mono ?_
    rintro e W' ⟨P1, rfl, hX1, hL1, hP1, hs', hf'⟩
    replace HS := Lib.hid hs'
    replace HF := Lib.hid (HF.out.trans hf')
    clear hs' hf' HCC
    clear q0 q1 q2 q3 q4
    have q0 := (HBX.out.others HF.out.others (by decide)).cell 0
    have q1 := (HBX.out.others HF.out.others (by decide)).cell 1
    have q2 := (HBX.out.others HF.out.others (by decide)).cell 2
    have q3 := (HBX.out.others HF.out.others (by decide)).cell 3
    have q4 := (HBX.out.others HF.out.others (by decide)).cell 4
    simp only [List.getElem?_toArray, List.getElem?_cons_zero, List.getElem?_cons_succ] at q0 q1 q2 q3 q4
    have HCC := Lib.hid (HS.out.sub' (now' := now) (hh := Hh) (sz := 8 * fl + 4) (fun Y hi hp => by
      have hin : TkIn base g (X ++ Y) now hi Hh (flatAll ks).length A1 (ks.map flat) W' := by
        rw [← HFL.out]
        exact ⟨hp.wr.wr, hp.kd, hp.wr.bw, by rw [List.length_append]; have := hp.n; omega, by omega, by have := hp.wr.hi; have := hp.cap; omega, hh9⟩
      have := HTK.out Zk Zz base g (X ++ Y) now hi Hh A1 c1 kl W' hin HHQ.out HKL.out hcl
      rw [← HFL.out] at this
      exact this) (Nat.le_refl _))
    go_wp2_with fail
    refine HCC.out.mono ?_
    rintro e W' ⟨rfl, hs', hf'⟩
    replace HS := Lib.hid hs'
    clear hs' hf' HCC HF q0 q1 q2 q3 q4
    have HFIN := Lib.hid ((HS.out.done (sz := 8 * (1 + fl) - 3) (by omega)).of HBW1.out HBW.out)
    rw [HFL.out] at HFIN
    go_wp2_with fail
    go_returns
    exact HFIN.out
end Go.Proofs.YtpogngdddendiaaDoor
