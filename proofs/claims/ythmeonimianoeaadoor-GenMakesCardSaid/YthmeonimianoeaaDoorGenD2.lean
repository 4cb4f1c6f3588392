/- The walks over ticked, kind by kind; printed by gen/tk.py. Bounds on the lengths. -/
import Derived.Test.YthmeonimianoeaaDoorGenD1
set_option linter.unusedVariables false
set_option linter.unusedSimpArgs false
namespace Go.Proofs.YthmeonimianoeaaDoor
open Go.RowKit
set_option maxRecDepth 100000 in
set_option maxHeartbeats 8000000 in
theorem tk36 (t0 : Tr) (HT0 : WordOk t0) (n kk z : Int) (s : List UInt8) (hs : s.length ≤ 2000) (base g : Nat) (X : List Ins) (now high H : Nat) (A : Option Addr) (c m : Nat) (w : World) (h : TkIn base g X now high H (flat t0).length A [flat t0] w) (hm : m = 1) (hH0 : heightT t0 ≤ H) :
    Calls Tryd.prog 65 #[.pointer (some ⟨g, 0, none⟩), .agg #[.int .i64 36, .int .i64 n, .int .i64 kk, .int .i64 z, .string ⟨s.toArray⟩], .slice A m c] w (TkRet base g X now high H (flat t0).length w) := by
  subst hm
  have p0 := flat_pos t0
  obtain ⟨kb, ko, _, rfl, -⟩ := h.kd.at_ (k := 0) (by simp)
  have hx := h.x
  have hnow := h.nb
  have h9 := h.h9
  have HSL := Lib.hid hs
  have HIN := Lib.hid h
  have HBX := Lib.hid (Blk.new w 40 #[.int .i64 36, .int .i64 n, .int .i64 kk, .int .i64 z, .string ⟨s.toArray⟩])
  have hbb : Below w.heap.size w (w.alloc (.cells #[.int .i64 36, .int .i64 n, .int .i64 kk, .int .i64 z, .string ⟨s.toArray⟩] 40)) := (Below.refl _ w).alloc (Nat.le_refl _) _
  have HS := Lib.hid (h.st hbb)
  have HBB := Lib.hid hbb
  generalize hw1 : w.alloc (.cells #[.int .i64 36, .int .i64 n, .int .i64 kk, .int .i64 z, .string ⟨s.toArray⟩] 40) = w1 at *
  have HW1 := Lib.hid hw1
  obtain ⟨gx, hgx⟩ : ∃ gx, gx = w.heap.size := ⟨_, rfl⟩
  rw [← hgx] at HBX
  have HGX := Lib.hid hgx
  have HF := Lib.hid (FrW.refl base w1)
  have q0 := HBX.out.cell 0
  have q1 := HBX.out.cell 1
  have q4 := HBX.out.cell 4
  simp only [List.getElem?_toArray, List.getElem?_cons_zero, List.getElem?_cons_succ] at q0 q1 q4
  clear h hs hw1 hgx hbb
  go_enter Tryd.func65, Tryd.ntmps65
  go_upto_region 1 with (fail)
  rw [HW1.out, ← HGX.out]
  clear HW1 HGX
  obtain ⟨Av, nv, cv, hkc, hcc⟩ := (HS.out.word_ (k := 0) HT0 (by simp) rfl (by omega) (by omega) (by omega))
  have HCC := Lib.hid hcc
  clear hcc
  first | (simp only [Nat.add_zero] at hkc) | skip
  go_wp2_with fail
  refine HCC.out.mono ?_
  rintro e W' ⟨rfl, hs', hf'⟩
  replace HS := Lib.hid hs'
  replace HF := Lib.hid (HF.out.trans hf')
  clear hs' hf' HCC hkc
  clear q0 q1 q4
  have HCC := Lib.hid (HS.out.op_ 37 0 0 [] (fun m _ => by simp [okI, placeA, placeB, countA]) (by omega))
  go_wp2_with fail
  refine HCC.out.mono ?_
  rintro e W' ⟨P1, rfl, hX1, hL1, hP1, hs', hf'⟩
  replace HS := Lib.hid hs'
  replace HF := Lib.hid (HF.out.trans hf')
  clear hs' hf' HCC
  have HCC := Lib.hid (HS.out.push_ now (-1) (by omega) (by omega) (by omega))
  go_wp2_with fail
  refine HCC.out.mono ?_
  rintro e W' ⟨rfl, hs', hf'⟩
  replace HS := Lib.hid hs'
  replace HF := Lib.hid (HF.out.trans hf')
  clear hs' hf' HCC
  have HFIN := Lib.hid (HS.out.done (sz := 8 * (flat t0).length + 4) (by omega))
  go_wp2_with fail
  go_returns
  exact HFIN.out
set_option maxRecDepth 100000 in
set_option maxHeartbeats 8000000 in
theorem tk31 (t0 : Tr) (HT0 : DoOk t0) (n kk z : Int) (s : List UInt8) (hs : s.length ≤ 2000) (base g : Nat) (X : List Ins) (now high H : Nat) (A : Option Addr) (c m : Nat) (w : World) (h : TkIn base g X now high H (flat t0).length A [flat t0] w) (hm : m = 1) (hH0 : heightT t0 ≤ H) :
    Calls Tryd.prog 65 #[.pointer (some ⟨g, 0, none⟩), .agg #[.int .i64 31, .int .i64 n, .int .i64 kk, .int .i64 z, .string ⟨s.toArray⟩], .slice A m c] w (TkRet base g X now high H (flat t0).length w) := by
  subst hm
  have p0 := flat_pos t0
  obtain ⟨kb, ko, _, rfl, -⟩ := h.kd.at_ (k := 0) (by simp)
  have hx := h.x
  have hnow := h.nb
  have h9 := h.h9
  have HSL := Lib.hid hs
  have HIN := Lib.hid h
  have HBX := Lib.hid (Blk.new w 40 #[.int .i64 31, .int .i64 n, .int .i64 kk, .int .i64 z, .string ⟨s.toArray⟩])
  have hbb : Below w.heap.size w (w.alloc (.cells #[.int .i64 31, .int .i64 n, .int .i64 kk, .int .i64 z, .string ⟨s.toArray⟩] 40)) := (Below.refl _ w).alloc (Nat.le_refl _) _
  have HS := Lib.hid (h.st hbb)
  have HBB := Lib.hid hbb
  generalize hw1 : w.alloc (.cells #[.int .i64 31, .int .i64 n, .int .i64 kk, .int .i64 z, .string ⟨s.toArray⟩] 40) = w1 at *
  have HW1 := Lib.hid hw1
  obtain ⟨gx, hgx⟩ : ∃ gx, gx = w.heap.size := ⟨_, rfl⟩
  rw [← hgx] at HBX
  have HGX := Lib.hid hgx
  have HF := Lib.hid (FrW.refl base w1)
  have q0 := HBX.out.cell 0
  have q1 := HBX.out.cell 1
  have q4 := HBX.out.cell 4
  simp only [List.getElem?_toArray, List.getElem?_cons_zero, List.getElem?_cons_succ] at q0 q1 q4
  clear h hs hw1 hgx hbb
  go_enter Tryd.func65, Tryd.ntmps65
  go_upto_region 1 with (fail)
  rw [HW1.out, ← HGX.out]
  clear HW1 HGX
  go_upto_region 12 with (fail)
  clear q0 q1 q4
  have q4 := (HBX.out.others HF.out.others (by decide)).cell 4
  simp only [List.getElem?_toArray, List.getElem?_cons_zero, List.getElem?_cons_succ] at q4
  have l4 := Later.cell q4
  have HOPC := Lib.hid (fun (W2 : World) hW => St.op_ (HS.out.below (W' := W2) hW) 26 0 0 s (fun m _ => by simp [okI, placeA, placeB, countA, HSL.out]; omega) (by omega))
  go_upto_region 12 with (fail)
  clear q4
  refine wp_region_mid 5 _ rfl rfl (by kernel_rfl) (by kernel_rfl) (by kernel_rfl) ?_
  apply EqGo.run
  focus
    kernel_rfl
  focus
    intro x K hK
    go_wp2_with fail
    first | exact hK x (Below.refl _ _) | exact Below.refl _ _
  simp only [Act.put, List.setIfInBounds_toArray, List.set_cons_succ, List.set_cons_zero]
  apply EqGo.run
  focus
    kernel_rfl
  focus
    intro x K hK
    go_wp2_with fail
    first | exact hK x (Below.refl _ _) | exact Below.refl _ _
  simp only [Act.put, List.setIfInBounds_toArray, List.set_cons_succ, List.set_cons_zero]
  apply EqGo.run
  focus
    kernel_rfl
  focus
    intro x K hK
    go_wp2_with fail
    first | exact hK x (Below.refl _ _) | exact Below.refl _ _
  simp only [Act.put, List.setIfInBounds_toArray, List.set_cons_succ, List.set_cons_zero]
  apply EqGo.run
  focus
    kernel_rfl
  focus
    intro x K hK
    go_wp2_with fail
    first | exact hK x (Below.refl _ _) | exact Below.refl _ _
  simp only [Act.put, List.setIfInBounds_toArray, List.set_cons_succ, List.set_cons_zero]
  apply EqGo.run
  focus
    kernel_rfl
  focus
    intro x K hK
    go_wp2_with fail
    first | exact hK x (Below.refl _ _) | exact Below.refl _ _
  simp only [Act.put, List.setIfInBounds_toArray, List.set_cons_succ, List.set_cons_zero]
  intro z K hK
  have HCC := Lib.hid (HOPC.out z.val z.below)
  have HFz := Lib.hid (FrW.of z.below HS.out.bw)
  clear HOPC l4
  go_wp2_with fail
  refine HCC.out.mono ?_
  rintro e W' ⟨P1, rfl, hX1, hL1, hP1, hs', hf'⟩
  replace HS := Lib.hid hs'
  replace HF := Lib.hid ((HF.out.trans HFz.out).trans hf')
  clear hs' hf' HCC HFz
  refine hK _ _ ?_
  clear hK K
  simp only [Act.put, List.setIfInBounds_toArray, List.set_cons_succ, List.set_cons_zero]
  apply EqGo.run
  focus
    kernel_rfl
  focus
    intro x K hK
    go_wp2_with fail
    first | exact hK x (Below.refl _ _) | exact Below.refl _ _
  simp only [Act.put, List.setIfInBounds_toArray, List.set_cons_succ, List.set_cons_zero]
  intro z2
  replace HF := Lib.hid (HF.out.trans (FrW.of z2.below HS.out.bw))
  replace HS := Lib.hid (HS.out.below z2.below)
  generalize z2.val = W' at *
  clear z2
  obtain ⟨ga, gc, gn, gP, gn8, l0, hhere, hst⟩ := HS.out.fill (P := P1) (by omega) (by omega) (by omega)
  have HHE := Lib.hid hhere
  have HST := Lib.hid hst
  clear hhere hst
  go_upto_region 13 with (fail)
  refine wp_region_mid 12 _ rfl rfl (by kernel_rfl) (by kernel_rfl) (by kernel_rfl) ?_
  apply EqGo.run
  focus
    kernel_rfl
  focus
    intro x K hK
    go_wp2_with fail
    first | exact hK x (Below.refl _ _) | exact Below.refl _ _
  simp only [Act.put, List.setIfInBounds_toArray, List.set_cons_succ, List.set_cons_zero]
  apply EqGo.run
  focus
    kernel_rfl
  focus
    intro x K hK
    go_wp2_with fail
    first | exact hK x (Below.refl _ _) | exact Below.refl _ _
  simp only [Act.put, List.setIfInBounds_toArray, List.set_cons_succ, List.set_cons_zero]
  apply EqGo.run
  focus
    kernel_rfl
  focus
    intro x K hK
    go_wp2_with fail
    first | exact hK x (Below.refl _ _) | exact Below.refl _ _
  simp only [Act.put, List.setIfInBounds_toArray, List.set_cons_succ, List.set_cons_zero]
  apply EqGo.run
  focus
    kernel_rfl
  focus
    intro x K hK
    go_wp2_with fail
    first | exact hK x (Below.refl _ _) | exact Below.refl _ _
  simp only [Act.put, List.setIfInBounds_toArray, List.set_cons_succ, List.set_cons_zero]
  apply EqGo.run
  focus
    kernel_rfl
  focus
    intro x K hK
    go_wp2_with fail
    first | exact hK x (Below.refl _ _) | exact Below.refl _ _
  simp only [Act.put, List.setIfInBounds_toArray, List.set_cons_succ, List.set_cons_zero]
  apply EqGo.run
  focus
    kernel_rfl
  focus
    intro x K hK
    go_wp2_with fail
    first | exact hK x (Below.refl _ _) | exact Below.refl _ _
  simp only [Act.put, List.setIfInBounds_toArray, List.set_cons_succ, List.set_cons_zero]
  apply EqGo.run
  focus
    kernel_rfl
  focus
    intro x K hK
    go_wp2_with fail
    first | exact hK x (Below.refl _ _) | exact Below.refl _ _
  simp only [Act.put, List.setIfInBounds_toArray, List.set_cons_succ, List.set_cons_zero]
  apply EqGo.run
  focus
    kernel_rfl
  focus
    intro x K hK
    go_wp2_with fail
    first | exact hK x (Below.refl _ _) | exact Below.refl _ _
  simp only [Act.put, List.setIfInBounds_toArray, List.set_cons_succ, List.set_cons_zero]
  apply EqGo.run
  focus
    kernel_rfl
  focus
    intro x K hK
    go_wp2_with fail
    first | exact hK x (Below.refl _ _) | exact Below.refl _ _
  simp only [Act.put, List.setIfInBounds_toArray, List.set_cons_succ, List.set_cons_zero]
  apply EqGo.run
  focus
    kernel_rfl
  focus
    intro x K hK
    go_wp2_with fail
    refine (Hid.out HHE x.val x.below).mono ?_
    rintro e x' ⟨rfl, hb'⟩
    exact hK ⟨x', x.below.trans (hb'.mono x.below.size)⟩ hb'
  simp only [Act.put, List.setIfInBounds_toArray, List.set_cons_succ, List.set_cons_zero]
  apply EqGo.run
  focus
    kernel_rfl
  focus
    intro x K hK
    go_wp2_with fail
    first | exact hK x (Below.refl _ _) | exact Below.refl _ _
  simp only [Act.put, List.setIfInBounds_toArray, List.set_cons_succ, List.set_cons_zero]
  apply EqGo.run
  focus
    kernel_rfl
  focus
    intro x K hK
    go_wp2_with fail
    first | exact hK x (Below.refl _ _) | exact Below.refl _ _
  simp only [Act.put, List.setIfInBounds_toArray, List.set_cons_succ, List.set_cons_zero]
  intro z K hK
  obtain ⟨⟨u1, hu1⟩, fu1, ⟨u2, hu2⟩, fu2, hsA, hfA, hsB, hfB⟩ := HST.out z.val z.below
  replace HF := Lib.hid (HF.out.trans hfA)
  replace HS := Lib.hid hsA
  clear hsA hfA hsB hfB HST HHE l0
  go_wp2_with fail
  refine hK undef _ ?_
  clear hK K hu1 fu1 hu2 fu2 u1 u2
  intro z2
  replace HF := Lib.hid (HF.out.trans (FrW.of z2.below HS.out.bw))
  replace HS := Lib.hid (HS.out.below z2.below)
  generalize z2.val = W' at *
  clear z2 gP gn8
  obtain ⟨Av, nv, cv, hkc, hcc⟩ := (HS.out.do_ (k := 0) HT0 (by simp) rfl (by omega) (by omega) (by omega))
  have HCC := Lib.hid hcc
  clear hcc
  first | (simp only [Nat.add_zero] at hkc) | skip
  go_wp2_with fail
  refine HCC.out.mono ?_
  rintro e W' ⟨rfl, hs', hf'⟩
  replace HS := Lib.hid hs'
  replace HF := Lib.hid (HF.out.trans hf')
  clear hs' hf' HCC hkc
  have HCC := Lib.hid (HS.out.op_ 40 0 0 [] (fun m _ => by simp [okI, placeA, placeB, countA]) (by omega))
  go_wp2_with fail
  refine HCC.out.mono ?_
  rintro e W' ⟨P2, rfl, hX2, hL2, hP2, hs', hf'⟩
  replace HS := Lib.hid hs'
  replace HF := Lib.hid (HF.out.trans hf')
  clear hs' hf' HCC
  obtain ⟨ga, gc, gn, gP, gn8, l0, hhere, hst⟩ := HS.out.fill (P := P1) (by omega) (by omega) (by omega)
  have HHE := Lib.hid hhere
  have HST := Lib.hid hst
  clear hhere hst
  go_upto_region 16 with (fail)
  refine wp_region_mid 12 _ rfl rfl (by kernel_rfl) (by kernel_rfl) (by kernel_rfl) ?_
  apply EqGo.run
  focus
    kernel_rfl
  focus
    intro x K hK
    go_wp2_with fail
    first | exact hK x (Below.refl _ _) | exact Below.refl _ _
  simp only [Act.put, List.setIfInBounds_toArray, List.set_cons_succ, List.set_cons_zero]
  apply EqGo.run
  focus
    kernel_rfl
  focus
    intro x K hK
    go_wp2_with fail
    first | exact hK x (Below.refl _ _) | exact Below.refl _ _
  simp only [Act.put, List.setIfInBounds_toArray, List.set_cons_succ, List.set_cons_zero]
  apply EqGo.run
  focus
    kernel_rfl
  focus
    intro x K hK
    go_wp2_with fail
    first | exact hK x (Below.refl _ _) | exact Below.refl _ _
  simp only [Act.put, List.setIfInBounds_toArray, List.set_cons_succ, List.set_cons_zero]
  apply EqGo.run
  focus
    kernel_rfl
  focus
    intro x K hK
    go_wp2_with fail
    first | exact hK x (Below.refl _ _) | exact Below.refl _ _
  simp only [Act.put, List.setIfInBounds_toArray, List.set_cons_succ, List.set_cons_zero]
  apply EqGo.run
  focus
    kernel_rfl
  focus
    intro x K hK
    go_wp2_with fail
    first | exact hK x (Below.refl _ _) | exact Below.refl _ _
  simp only [Act.put, List.setIfInBounds_toArray, List.set_cons_succ, List.set_cons_zero]
  apply EqGo.run
  focus
    kernel_rfl
  focus
    intro x K hK
    go_wp2_with fail
    first | exact hK x (Below.refl _ _) | exact Below.refl _ _
  simp only [Act.put, List.setIfInBounds_toArray, List.set_cons_succ, List.set_cons_zero]
  apply EqGo.run
  focus
    kernel_rfl
  focus
    intro x K hK
    go_wp2_with fail
    first | exact hK x (Below.refl _ _) | exact Below.refl _ _
  simp only [Act.put, List.setIfInBounds_toArray, List.set_cons_succ, List.set_cons_zero]
  apply EqGo.run
  focus
    kernel_rfl
  focus
    intro x K hK
    go_wp2_with fail
    first | exact hK x (Below.refl _ _) | exact Below.refl _ _
  simp only [Act.put, List.setIfInBounds_toArray, List.set_cons_succ, List.set_cons_zero]
  apply EqGo.run
  focus
    kernel_rfl
  focus
    intro x K hK
    go_wp2_with fail
    first | exact hK x (Below.refl _ _) | exact Below.refl _ _
  simp only [Act.put, List.setIfInBounds_toArray, List.set_cons_succ, List.set_cons_zero]
  apply EqGo.run
  focus
    kernel_rfl
  focus
    intro x K hK
    go_wp2_with fail
    refine (Hid.out HHE x.val x.below).mono ?_
    rintro e x' ⟨rfl, hb'⟩
    exact hK ⟨x', x.below.trans (hb'.mono x.below.size)⟩ hb'
  simp only [Act.put, List.setIfInBounds_toArray, List.set_cons_succ, List.set_cons_zero]
  apply EqGo.run
  focus
    kernel_rfl
  focus
    intro x K hK
    go_wp2_with fail
    first | exact hK x (Below.refl _ _) | exact Below.refl _ _
  simp only [Act.put, List.setIfInBounds_toArray, List.set_cons_succ, List.set_cons_zero]
  apply EqGo.run
  focus
    kernel_rfl
  focus
    intro x K hK
    go_wp2_with fail
    first | exact hK x (Below.refl _ _) | exact Below.refl _ _
  simp only [Act.put, List.setIfInBounds_toArray, List.set_cons_succ, List.set_cons_zero]
  intro z K hK
  obtain ⟨⟨u1, hu1⟩, fu1, ⟨u2, hu2⟩, fu2, hsA, hfA, hsB, hfB⟩ := HST.out z.val z.below
  replace HF := Lib.hid (HF.out.trans hfB)
  replace HS := Lib.hid hsB
  clear hsA hfA hsB hfB HST HHE l0
  go_wp2_with fail
  refine hK undef _ ?_
  clear hK K hu1 fu1 hu2 fu2 u1 u2
  intro z2
  replace HF := Lib.hid (HF.out.trans (FrW.of z2.below HS.out.bw))
  replace HS := Lib.hid (HS.out.below z2.below)
  generalize z2.val = W' at *
  clear z2 gP gn8
  have HFIN := Lib.hid (HS.out.done (sz := 8 * (flat t0).length + 4) (by omega))
  go_wp2_with fail
  go_returns
  exact HFIN.out
set_option maxRecDepth 100000 in
set_option maxHeartbeats 8000000 in
theorem tk33 (t0 t1 : Tr) (HT0 : WordOk t0) (HT1 : DoOk t1) (n kk z : Int) (s : List UInt8) (hs : s.length ≤ 2000) (base g : Nat) (X : List Ins) (now high H : Nat) (A : Option Addr) (c m : Nat) (w : World) (h : TkIn base g X now high H ((flat t0).length + (flat t1).length) A [flat t0, flat t1] w) (hm : m = 2) (hH0 : heightT t0 ≤ H) (hH1 : heightT t1 ≤ H) (h1H : 1 ≤ H) :
    Calls Tryd.prog 65 #[.pointer (some ⟨g, 0, none⟩), .agg #[.int .i64 33, .int .i64 n, .int .i64 kk, .int .i64 z, .string ⟨s.toArray⟩], .slice A m c] w (TkRet base g X now high H ((flat t0).length + (flat t1).length) w) := by
  subst hm
  obtain ⟨kb, ko, _, rfl, -⟩ := h.kd.at_ (k := 0) (by simp)
  have hx := h.x
  have hnow := h.nb
  have h9 := h.h9
  have HSL := Lib.hid hs
  have HIN := Lib.hid h
  have HBX := Lib.hid (Blk.new w 40 #[.int .i64 33, .int .i64 n, .int .i64 kk, .int .i64 z, .string ⟨s.toArray⟩])
  have hbb : Below w.heap.size w (w.alloc (.cells #[.int .i64 33, .int .i64 n, .int .i64 kk, .int .i64 z, .string ⟨s.toArray⟩] 40)) := (Below.refl _ w).alloc (Nat.le_refl _) _
  have HS := Lib.hid (h.st hbb)
  have HBB := Lib.hid hbb
  generalize hw1 : w.alloc (.cells #[.int .i64 33, .int .i64 n, .int .i64 kk, .int .i64 z, .string ⟨s.toArray⟩] 40) = w1 at *
  have HW1 := Lib.hid hw1
  obtain ⟨gx, hgx⟩ : ∃ gx, gx = w.heap.size := ⟨_, rfl⟩
  rw [← hgx] at HBX
  have HGX := Lib.hid hgx
  have HF := Lib.hid (FrW.refl base w1)
  have q0 := HBX.out.cell 0
  have q1 := HBX.out.cell 1
  have q4 := HBX.out.cell 4
  simp only [List.getElem?_toArray, List.getElem?_cons_zero, List.getElem?_cons_succ] at q0 q1 q4
  clear h hs hw1 hgx hbb
  have HCC := Lib.hid (around_any t0 t1 HT0 HT1 30 31 n [] (by omega) (by first | exact HSL.out | simp) base g X now high H _ c 2 w1 (HIN.out.wr.below HBB.out) (HIN.out.kd.frw (FrW.of HBB.out HIN.out.bw)) rfl (Nat.le_trans HIN.out.bw HBB.out.size) hH0 hH1 h1H (by omega) (by omega) HIN.out.hi h9)
  go_enter Tryd.func65, Tryd.ntmps65
  go_upto_region 1 with (fail)
  rw [HW1.out, ← HGX.out]
  clear HW1 HGX
  go_wp2_with fail
  refine HCC.out.mono ?_
  intro e W' hw'
  obtain ⟨Y, hi2, rfl, r1, r2, r3, r4, r5, r6⟩ := hw'
  have HFIN := Lib.hid (show TkRet base g X now high H ((flat t0).length + (flat t1).length) w (.returned (.tuple #[])) W' from TkRet.of (w1 := w1) ⟨Y, hi2, rfl, r1, r2, r3, by omega, r5, r6⟩ HBB.out HIN.out.bw)
  clear r1 r2 r3 r4 r5 r6 HCC
  go_wp2_with fail
  go_returns
  exact HFIN.out
set_option maxRecDepth 100000 in
set_option maxHeartbeats 8000000 in
theorem tk34 (t0 t1 : Tr) (HT0 : WordOk t0) (HT1 : DoOk t1) (n kk z : Int) (s : List UInt8) (hs : s.length ≤ 2000) (base g : Nat) (X : List Ins) (now high H : Nat) (A : Option Addr) (c m : Nat) (w : World) (h : TkIn base g X now high H ((flat t0).length + (flat t1).length) A [flat t0, flat t1] w) (hm : m = 2) (hH0 : heightT t0 ≤ H) (hH1 : heightT t1 ≤ H) (h1H : 1 ≤ H) :
    Calls Tryd.prog 65 #[.pointer (some ⟨g, 0, none⟩), .agg #[.int .i64 34, .int .i64 n, .int .i64 kk, .int .i64 z, .string ⟨s.toArray⟩], .slice A m c] w (TkRet base g X now high H ((flat t0).length + (flat t1).length) w) := by
  subst hm
  obtain ⟨kb, ko, _, rfl, -⟩ := h.kd.at_ (k := 0) (by simp)
  have hx := h.x
  have hnow := h.nb
  have h9 := h.h9
  have HSL := Lib.hid hs
  have HIN := Lib.hid h
  have HBX := Lib.hid (Blk.new w 40 #[.int .i64 34, .int .i64 n, .int .i64 kk, .int .i64 z, .string ⟨s.toArray⟩])
  have hbb : Below w.heap.size w (w.alloc (.cells #[.int .i64 34, .int .i64 n, .int .i64 kk, .int .i64 z, .string ⟨s.toArray⟩] 40)) := (Below.refl _ w).alloc (Nat.le_refl _) _
  have HS := Lib.hid (h.st hbb)
  have HBB := Lib.hid hbb
  generalize hw1 : w.alloc (.cells #[.int .i64 34, .int .i64 n, .int .i64 kk, .int .i64 z, .string ⟨s.toArray⟩] 40) = w1 at *
  have HW1 := Lib.hid hw1
  obtain ⟨gx, hgx⟩ : ∃ gx, gx = w.heap.size := ⟨_, rfl⟩
  rw [← hgx] at HBX
  have HGX := Lib.hid hgx
  have HF := Lib.hid (FrW.refl base w1)
  have q0 := HBX.out.cell 0
  have q1 := HBX.out.cell 1
  have q4 := HBX.out.cell 4
  simp only [List.getElem?_toArray, List.getElem?_cons_zero, List.getElem?_cons_succ] at q0 q1 q4
  clear h hs hw1 hgx hbb
  have HCC := Lib.hid (around_any t0 t1 HT0 HT1 32 33 0 [] (by omega) (by first | exact HSL.out | simp) base g X now high H _ c 2 w1 (HIN.out.wr.below HBB.out) (HIN.out.kd.frw (FrW.of HBB.out HIN.out.bw)) rfl (Nat.le_trans HIN.out.bw HBB.out.size) hH0 hH1 h1H (by omega) (by omega) HIN.out.hi h9)
  go_enter Tryd.func65, Tryd.ntmps65
  go_upto_region 1 with (fail)
  rw [HW1.out, ← HGX.out]
  clear HW1 HGX
  go_wp2_with fail
  refine HCC.out.mono ?_
  intro e W' hw'
  obtain ⟨Y, hi2, rfl, r1, r2, r3, r4, r5, r6⟩ := hw'
  have HFIN := Lib.hid (show TkRet base g X now high H ((flat t0).length + (flat t1).length) w (.returned (.tuple #[])) W' from TkRet.of (w1 := w1) ⟨Y, hi2, rfl, r1, r2, r3, by omega, r5, r6⟩ HBB.out HIN.out.bw)
  clear r1 r2 r3 r4 r5 r6 HCC
  go_wp2_with fail
  go_returns
  exact HFIN.out
set_option maxRecDepth 100000 in
set_option maxHeartbeats 8000000 in
theorem tk35 (t0 t1 : Tr) (HT0 : WordOk t0) (HT1 : DoOk t1) (n kk z : Int) (s : List UInt8) (hs : s.length ≤ 2000) (base g : Nat) (X : List Ins) (now high H : Nat) (A : Option Addr) (c m : Nat) (w : World) (h : TkIn base g X now high H ((flat t0).length + (flat t1).length) A [flat t0, flat t1] w) (hm : m = 2) (hH0 : heightT t0 ≤ H) (hH1 : heightT t1 ≤ H) (h1H : 1 ≤ H) :
    Calls Tryd.prog 65 #[.pointer (some ⟨g, 0, none⟩), .agg #[.int .i64 35, .int .i64 n, .int .i64 kk, .int .i64 z, .string ⟨s.toArray⟩], .slice A m c] w (TkRet base g X now high H ((flat t0).length + (flat t1).length) w) := by
  subst hm
  obtain ⟨kb, ko, _, rfl, -⟩ := h.kd.at_ (k := 0) (by simp)
  have hx := h.x
  have hnow := h.nb
  have h9 := h.h9
  have HSL := Lib.hid hs
  have HIN := Lib.hid h
  have HBX := Lib.hid (Blk.new w 40 #[.int .i64 35, .int .i64 n, .int .i64 kk, .int .i64 z, .string ⟨s.toArray⟩])
  have hbb : Below w.heap.size w (w.alloc (.cells #[.int .i64 35, .int .i64 n, .int .i64 kk, .int .i64 z, .string ⟨s.toArray⟩] 40)) := (Below.refl _ w).alloc (Nat.le_refl _) _
  have HS := Lib.hid (h.st hbb)
  have HBB := Lib.hid hbb
  generalize hw1 : w.alloc (.cells #[.int .i64 35, .int .i64 n, .int .i64 kk, .int .i64 z, .string ⟨s.toArray⟩] 40) = w1 at *
  have HW1 := Lib.hid hw1
  obtain ⟨gx, hgx⟩ : ∃ gx, gx = w.heap.size := ⟨_, rfl⟩
  rw [← hgx] at HBX
  have HGX := Lib.hid hgx
  have HF := Lib.hid (FrW.refl base w1)
  have q0 := HBX.out.cell 0
  have q1 := HBX.out.cell 1
  have q4 := HBX.out.cell 4
  simp only [List.getElem?_toArray, List.getElem?_cons_zero, List.getElem?_cons_succ] at q0 q1 q4
  clear h hs hw1 hgx hbb
  have HCC := Lib.hid (around_any t0 t1 HT0 HT1 34 35 0 s (by omega) (by first | exact HSL.out | simp) base g X now high H _ c 2 w1 (HIN.out.wr.below HBB.out) (HIN.out.kd.frw (FrW.of HBB.out HIN.out.bw)) rfl (Nat.le_trans HIN.out.bw HBB.out.size) hH0 hH1 h1H (by omega) (by omega) HIN.out.hi h9)
  go_enter Tryd.func65, Tryd.ntmps65
  go_upto_region 1 with (fail)
  rw [HW1.out, ← HGX.out]
  clear HW1 HGX
  go_wp2_with fail
  refine HCC.out.mono ?_
  intro e W' hw'
  obtain ⟨Y, hi2, rfl, r1, r2, r3, r4, r5, r6⟩ := hw'
  have HFIN := Lib.hid (show TkRet base g X now high H ((flat t0).length + (flat t1).length) w (.returned (.tuple #[])) W' from TkRet.of (w1 := w1) ⟨Y, hi2, rfl, r1, r2, r3, by omega, r5, r6⟩ HBB.out HIN.out.bw)
  clear r1 r2 r3 r4 r5 r6 HCC
  go_wp2_with fail
  go_returns
  exact HFIN.out
set_option maxRecDepth 100000 in
set_option maxHeartbeats 8000000 in
theorem tk30 (ks : List Tr) (p : Nat) (hodd : ks.length = 2 * p + 1) (HW : ∀ k (h : k < ks.length), (k = 0 ∨ k % 2 = 1) → WordOk ks[k]) (HD : ∀ k (h : k < ks.length), k ≠ 0 → k % 2 = 0 → DoOk ks[k]) (n kk z : Int) (s : List UInt8) (hs : s.length ≤ 2000) (base g : Nat) (X : List Ins) (now high H : Nat) (A : Option Addr) (c m : Nat) (w : World) (h : TkIn base g X now high H (flatAll ks).length A (ks.map flat) w) (hm : m = ks.length) (hH : ∀ i (h : i < ks.length), heightT ks[i] + i % 2 ≤ H) :
    Calls Tryd.prog 65 #[.pointer (some ⟨g, 0, none⟩), .agg #[.int .i64 30, .int .i64 n, .int .i64 kk, .int .i64 z, .string ⟨s.toArray⟩], .slice A m c] w (TkRet base g X now high H (flatAll ks).length w) := by
  obtain ⟨kb, ko, _, rfl, -⟩ := h.kd.at_ (k := 0) (by simp; omega)
  have hx := h.x
  have hnow := h.nb
  have h9 := h.h9
  have HSL := Lib.hid hs
  have HIN := Lib.hid h
  have HBX := Lib.hid (Blk.new w 40 #[.int .i64 30, .int .i64 n, .int .i64 kk, .int .i64 z, .string ⟨s.toArray⟩])
  have hbb : Below w.heap.size w (w.alloc (.cells #[.int .i64 30, .int .i64 n, .int .i64 kk, .int .i64 z, .string ⟨s.toArray⟩] 40)) := (Below.refl _ w).alloc (Nat.le_refl _) _
  have HS := Lib.hid (h.st hbb)
  have HBB := Lib.hid hbb
  generalize hw1 : w.alloc (.cells #[.int .i64 30, .int .i64 n, .int .i64 kk, .int .i64 z, .string ⟨s.toArray⟩] 40) = w1 at *
  have HW1 := Lib.hid hw1
  obtain ⟨gx, hgx⟩ : ∃ gx, gx = w.heap.size := ⟨_, rfl⟩
  rw [← hgx] at HBX
  have HGX := Lib.hid hgx
  have HF := Lib.hid (FrW.refl base w1)
  have q0 := HBX.out.cell 0
  have q1 := HBX.out.cell 1
  have q4 := HBX.out.cell 4
  simp only [List.getElem?_toArray, List.getElem?_cons_zero, List.getElem?_cons_succ] at q0 q1 q4
  clear h hs hw1 hgx hbb
  have HCC := Lib.hid (choose_any ks p hodd HW HD base g X now high H _ c m w1 (HIN.out.wr.below HBB.out) (HIN.out.kd.frw (FrW.of HBB.out HIN.out.bw)) hm (Nat.le_trans HIN.out.bw HBB.out.size) hH (by omega) (by omega) HIN.out.hi h9)
  generalize (flatAll ks).length = fl at *
  clear HW HD hH hodd hm
  go_enter Tryd.func65, Tryd.ntmps65
  go_upto_region 1 with (fail)
  rw [HW1.out, ← HGX.out]
  clear HW1 HGX
  go_wp2_with fail
  refine HCC.out.mono ?_
  intro e W' hw'
  obtain ⟨Y, hi2, rfl, r1, r2, r3, r4, r5, r6⟩ := hw'
  have HFIN := Lib.hid (show TkRet base g X now high H fl w (.returned (.tuple #[])) W' from TkRet.of (w1 := w1) ⟨Y, hi2, rfl, r1, r2, r3, by omega, r5, r6⟩ HBB.out HIN.out.bw)
  clear r1 r2 r3 r4 r5 r6 HCC
  go_wp2_with fail
  go_returns
  exact HFIN.out
set_option maxRecDepth 100000 in
set_option maxHeartbeats 8000000 in
theorem tk21 (ks : List Tr) (HW : ∀ t ∈ ks, WordOk t) (h1 : 1 ≤ ks.length) (n kk z : Int) (s : List UInt8) (hs : s.length ≤ 2000) (base g : Nat) (X : List Ins) (now high H : Nat) (A : Option Addr) (c m : Nat) (w : World) (h : TkIn base g X now high H (flatAll ks).length A (ks.map flat) w) (hm : m = ks.length) (hH : ∀ i (h : i < ks.length), heightT ks[i] + i ≤ H) :
    Calls Tryd.prog 65 #[.pointer (some ⟨g, 0, none⟩), .agg #[.int .i64 21, .int .i64 n, .int .i64 kk, .int .i64 z, .string ⟨s.toArray⟩], .slice A m c] w (TkRet base g X now high H (flatAll ks).length w) := by
  obtain ⟨kb, ko, _, rfl, -⟩ := h.kd.at_ (k := 0) (by simp; omega)
  have hx := h.x
  have hnow := h.nb
  have h9 := h.h9
  have HSL := Lib.hid hs
  have HIN := Lib.hid h
  have HBX := Lib.hid (Blk.new w 40 #[.int .i64 21, .int .i64 n, .int .i64 kk, .int .i64 z, .string ⟨s.toArray⟩])
  have hbb : Below w.heap.size w (w.alloc (.cells #[.int .i64 21, .int .i64 n, .int .i64 kk, .int .i64 z, .string ⟨s.toArray⟩] 40)) := (Below.refl _ w).alloc (Nat.le_refl _) _
  have HS := Lib.hid (h.st hbb)
  have HBB := Lib.hid hbb
  generalize hw1 : w.alloc (.cells #[.int .i64 21, .int .i64 n, .int .i64 kk, .int .i64 z, .string ⟨s.toArray⟩] 40) = w1 at *
  have HW1 := Lib.hid hw1
  obtain ⟨gx, hgx⟩ : ∃ gx, gx = w.heap.size := ⟨_, rfl⟩
  rw [← hgx] at HBX
  have HGX := Lib.hid hgx
  have HF := Lib.hid (FrW.refl base w1)
  have q0 := HBX.out.cell 0
  have q1 := HBX.out.cell 1
  have q4 := HBX.out.cell 4
  simp only [List.getElem?_toArray, List.getElem?_cons_zero, List.getElem?_cons_succ] at q0 q1 q4
  clear h hs hw1 hgx hbb
  have hkl := len_flatAll ks
  have HCC := Lib.hid (HS.out.sub' (fun Y hi hp => together_any ks HW 3 0 (.inl rfl) (.inl rfl) base g (X ++ Y) now hi H _ c m w1 hp.wr.wr hp.kd hm hp.wr.bw hH (by rw [List.length_append]; have := hp.n; omega) (by omega) (by have := hp.wr.hi; have := hp.cap; omega) h9) (Nat.le_refl _))
  have hmn : min (m : Int) 2 = ((min m 2 : Nat) : Int) := by omega
  have hm8 : m ≤ 30000000 := by omega
  have hmk : m ≤ (flatAll ks).length := by omega
  generalize (flatAll ks).length = fl at *
  obtain ⟨mn, hmm⟩ : ∃ mn, mn = min m 2 := ⟨_, rfl⟩
  have hmn2 : mn ≤ 2 := by omega
  rw [← hmm] at hmn HCC
  clear HW hH h1 hm hmm hkl
  go_enter Tryd.func65, Tryd.ntmps65
  go_upto_region 1 with (fail)
  rw [HW1.out, ← HGX.out]
  clear HW1 HGX
  go_wp2_with fail
  refine HCC.out.mono ?_
  rintro e W' ⟨rfl, hs', hf'⟩
  replace HS := Lib.hid hs'
  replace HF := Lib.hid (HF.out.trans hf')
  clear hs' hf' HCC q0 q1 q4
  have HCC := Lib.hid (HS.out.op_ 15 mn 0 [] (fun m _ => by simp [okI, placeA, placeB, countA]) (by omega))
  go_wp2_with fail
  refine HCC.out.mono ?_
  rintro e W' ⟨P1, rfl, hX1, hL1, hP1, hs', hf'⟩
  replace HS := Lib.hid hs'
  replace HF := Lib.hid (HF.out.trans hf')
  clear hs' hf' HCC
  have HCC := Lib.hid (HS.out.push_ now (-(mn : Int)) (by omega) (by omega) (by omega))
  go_wp2_with fail
  refine HCC.out.mono ?_
  rintro e W' ⟨rfl, hs', hf'⟩
  replace HS := Lib.hid hs'
  replace HF := Lib.hid (HF.out.trans hf')
  clear hs' hf' HCC
  have HFIN := Lib.hid (HS.out.done (sz := 8 * fl + 4) (by omega))
  go_wp2_with fail
  go_returns
  exact HFIN.out
set_option maxRecDepth 100000 in
set_option maxHeartbeats 8000000 in
theorem tk32 (ks : List Tr) (HD : ∀ k (h : k < ks.length), DoOk ks[k]) (h1 : 1 ≤ ks.length) (n kk z : Int) (s : List UInt8) (hs : s.length ≤ 2000) (base g : Nat) (X : List Ins) (now high H : Nat) (A : Option Addr) (c m : Nat) (w : World) (h : TkIn base g X now high H (flatAll ks).length A (ks.map flat) w) (hm : m = ks.length) (hH : ∀ i (h : i < ks.length), heightT ks[i] ≤ H) :
    Calls Tryd.prog 65 #[.pointer (some ⟨g, 0, none⟩), .agg #[.int .i64 32, .int .i64 n, .int .i64 kk, .int .i64 z, .string ⟨s.toArray⟩], .slice A m c] w (TkRet base g X now high H (flatAll ks).length w) := by
  obtain ⟨kb, ko, _, rfl, -⟩ := h.kd.at_ (k := 0) (by simp; omega)
  have hx := h.x
  have hnow := h.nb
  have h9 := h.h9
  have HSL := Lib.hid hs
  have HIN := Lib.hid h
  have HBX := Lib.hid (Blk.new w 40 #[.int .i64 32, .int .i64 n, .int .i64 kk, .int .i64 z, .string ⟨s.toArray⟩])
  have hbb : Below w.heap.size w (w.alloc (.cells #[.int .i64 32, .int .i64 n, .int .i64 kk, .int .i64 z, .string ⟨s.toArray⟩] 40)) := (Below.refl _ w).alloc (Nat.le_refl _) _
  have HS := Lib.hid (h.st hbb)
  have HBB := Lib.hid hbb
  generalize hw1 : w.alloc (.cells #[.int .i64 32, .int .i64 n, .int .i64 kk, .int .i64 z, .string ⟨s.toArray⟩] 40) = w1 at *
  have HW1 := Lib.hid hw1
  obtain ⟨gx, hgx⟩ : ∃ gx, gx = w.heap.size := ⟨_, rfl⟩
  rw [← hgx] at HBX
  have HGX := Lib.hid hgx
  have HF := Lib.hid (FrW.refl base w1)
  have q0 := HBX.out.cell 0
  have q1 := HBX.out.cell 1
  have q4 := HBX.out.cell 4
  simp only [List.getElem?_toArray, List.getElem?_cons_zero, List.getElem?_cons_succ] at q0 q1 q4
  clear h hs hw1 hgx hbb
  have hkl := len_flatAll ks
  have hm8 : m ≤ 30000000 := by omega
  have HDO := Lib.hid HD
  have HHH := Lib.hid hH
  have HM := Lib.hid hm
  obtain ⟨fl, hfl⟩ : ∃ fl, fl = (flatAll ks).length := ⟨_, rfl⟩
  have HFL := Lib.hid hfl
  rw [← hfl] at hx hnow ⊢
  have hs0 : sumT ks 0 = 0 := by unfold sumT; rw [List.take_zero, flatAll_nil]; rfl
  clear HD hH h1 hm hkl hfl
  go_enter Tryd.func65, Tryd.ntmps65
  go_upto_region 1 with (fail)
  rw [HW1.out, ← HGX.out]
  clear HW1 HGX
  have HCC := Lib.hid (HS.out.op_ 27 m 0 [] (fun m _ => by simp [okI, placeA, placeB, countA]) (by omega))
  go_wp2_with fail
  refine HCC.out.mono ?_
  rintro e W' ⟨P1, rfl, hX1, hL1, hP1, hs', hf'⟩
  replace HS := Lib.hid hs'
  replace HF := Lib.hid (HF.out.trans hf')
  clear hs' hf' HCC
  have HS1 := Lib.hid (HS.out.weak (lo' := X.length) (n' := 8 * sumT ks 0 + 1) (by omega) (by omega))
  clear HS HF q0 q1 q4 hs0
  go_wp2_with fail
  go_loopw [102] (fun i wr => ∃ q : Nat, q ≤ m ∧ i = .int .i64 q ∧ Hid (St base g X now high H w (some ⟨kb, ko, none⟩) (ks.map flat) wr now X.length (8 * sumT ks q + 1))) (fun i _ => m - (intOf i).toNat)
  case atStart => exact ⟨0, Nat.zero_le _, rfl, HS1⟩
  case round =>
    obtain ⟨q, hq, rfl, HS⟩ := hrel
    clear HS1
    have HF := Lib.hid (FrW.refl base wr)
    by_cases hlt : q < m
    · have hqk : q < ks.length := by rw [← HM.out]; exact hlt
      have hsum := sumT_succ ks q hqk
      have hsl := sumT_le ks (q + 1)
      rw [← HFL.out] at hsl
      have hHq := HHH.out q hqk
      have hDq := HDO.out q hqk
      obtain ⟨t, ht⟩ : ∃ t, t = ks[q] := ⟨_, rfl⟩
      rw [← ht] at hsum hHq hDq
      have HK1 := Lib.hid (show q < (ks.map flat).length from by simpa using hqk)
      have HL1 := Lib.hid (show ∀ h : q < (ks.map flat).length, (ks.map flat)[q] = flat t from fun h => by rw [ht]; simp)
      have hpt := flat_pos t
      clear ht hqk
      obtain ⟨Av, nv, cv, hkc, hcc⟩ := (HS.out.do_ (k := q) hDq HK1.out (HL1.out _) (by omega) (by omega) (by omega))
      have HCC := Lib.hid hcc
      clear hcc
      first | (simp only [Nat.add_zero] at hkc) | skip
      go_wp2_with fail
      refine HCC.out.mono ?_
      rintro e W' ⟨rfl, hs', hf'⟩
      replace HS := Lib.hid hs'
      replace HF := Lib.hid (HF.out.trans hf')
      clear hs' hf' HCC hkc
      by_cases hq1 : q + 1 < m
      · have hd1 : decide ((q : Int) < (m : Int) - 1) = true := decide_eq_true (by omega)
        have HCC := Lib.hid (HS.out.op_ 28 0 0 [] (fun m _ => by simp [okI, placeA, placeB, countA]) (by omega))
        go_wp2_with fail
        refine HCC.out.mono ?_
        rintro e W' ⟨P2, rfl, hX2, hL2, hP2, hs', hf'⟩
        replace HS := Lib.hid hs'
        replace HF := Lib.hid (HF.out.trans hf')
        clear hs' hf' HCC
        have HSF := Lib.hid (HS.out.weak (lo' := X.length) (n' := 8 * sumT ks (q + 1) + 1) (by omega) (by omega))
        clear HS HF
        go_wp2_with fail
        go_roundw
        case rel => exact ⟨q + 1, by omega, by go_num, HSF⟩
        case measure => simp [intOf]; omega
      · have hd1 : decide ((q : Int) < (m : Int) - 1) = false := decide_eq_false (by omega)
        have HSF := Lib.hid (HS.out.weak (lo' := X.length) (n' := 8 * sumT ks (q + 1) + 1) (by omega) (by omega))
        clear HS HF
        go_wp2_with fail
        go_roundw
        case rel => exact ⟨q + 1, by omega, by go_num, HSF⟩
        case measure => simp [intOf]; omega
    · obtain rfl : q = m := by omega
      have hs9 : sumT ks q = fl := by
        unfold sumT
        rw [List.take_of_length_le (by rw [← HM.out]; exact Nat.le_refl _), HFL.out]
      rw [hs9] at HS
      have HCC := Lib.hid (HS.out.op_ 29 0 0 [] (fun m _ => by simp [okI, placeA, placeB, countA]) (by omega))
      go_wp2_with fail
      refine HCC.out.mono ?_
      rintro e W' ⟨P3, rfl, hX3, hL3, hP3, hs', hf'⟩
      replace HS := Lib.hid hs'
      replace HF := Lib.hid (HF.out.trans hf')
      clear hs' hf' HCC
      have HFIN := Lib.hid (HS.out.done (sz := 8 * fl + 4) (by omega))
      go_wp2_with fail
      go_returns
      exact HFIN.out
set_option maxRecDepth 100000 in
set_option maxHeartbeats 8000000 in
theorem tk37 (ks : List Tr) (p : Nat) (hp : ks.length = p + 1) (HW : ∀ t ∈ ks.take p, WordOk t) (HD : ∀ h : p < ks.length, DoOk ks[p]) (n kk z : Int) (s : List UInt8) (hs : s.length ≤ 2000) (base g : Nat) (X : List Ins) (now high H : Nat) (A : Option Addr) (c m : Nat) (w : World) (h : TkIn base g X now high H (flatAll ks).length A (ks.map flat) w) (hm : m = p + 1) (hmc : m ≤ c) (hH : ∀ i (h : i < (ks.take p).length), heightT (ks.take p)[i] + i ≤ H) (hHp : ∀ h : p < ks.length, heightT ks[p] ≤ H) :
    Calls Tryd.prog 65 #[.pointer (some ⟨g, 0, none⟩), .agg #[.int .i64 37, .int .i64 n, .int .i64 kk, .int .i64 z, .string ⟨s.toArray⟩], .slice A m c] w (TkRet base g X now high H (flatAll ks).length w) := by
  subst hm
  obtain ⟨kb, ko, _, rfl, -⟩ := h.kd.at_ (k := 0) (by simp; omega)
  have hx := h.x
  have hnow := h.nb
  have h9 := h.h9
  have HSL := Lib.hid hs
  have HIN := Lib.hid h
  have HBX := Lib.hid (Blk.new w 40 #[.int .i64 37, .int .i64 n, .int .i64 kk, .int .i64 z, .string ⟨s.toArray⟩])
  have hbb : Below w.heap.size w (w.alloc (.cells #[.int .i64 37, .int .i64 n, .int .i64 kk, .int .i64 z, .string ⟨s.toArray⟩] 40)) := (Below.refl _ w).alloc (Nat.le_refl _) _
  have HS := Lib.hid (h.st hbb)
  have HBB := Lib.hid hbb
  generalize hw1 : w.alloc (.cells #[.int .i64 37, .int .i64 n, .int .i64 kk, .int .i64 z, .string ⟨s.toArray⟩] 40) = w1 at *
  have HW1 := Lib.hid hw1
  obtain ⟨gx, hgx⟩ : ∃ gx, gx = w.heap.size := ⟨_, rfl⟩
  rw [← hgx] at HBX
  have HGX := Lib.hid hgx
  have HF := Lib.hid (FrW.refl base w1)
  have q0 := HBX.out.cell 0
  have q1 := HBX.out.cell 1
  have q4 := HBX.out.cell 4
  simp only [List.getElem?_toArray, List.getElem?_cons_zero, List.getElem?_cons_succ] at q0 q1 q4
  clear h hs hw1 hgx hbb
  have hkl := len_flatAll ks
  have htl : (ks.take p).length = p := by rw [List.length_take]; omega
  have hpk : p < ks.length := by omega
  have hsum : sumT ks (p + 1) = sumT ks p + (flat ks[p]).length := sumT_succ ks p hpk
  have hs9 : sumT ks (p + 1) = (flatAll ks).length := by
    unfold sumT
    rw [List.take_of_length_le (by omega)]
  have hsp : (flatAll (ks.take p)).length = sumT ks p := rfl
  have HCC := Lib.hid (HS.out.sub' (fun Y hi hp2 => together_any (ks.take p) HW 38 1 (.inr (.inr rfl)) (.inr rfl) base g (X ++ Y) now hi H _ c p w1 hp2.wr.wr (by rw [List.map_take]; exact hp2.kd.take p) htl.symm hp2.wr.bw hH (by rw [List.length_append]; have := hp2.n; omega) (by omega) (by have := hp2.wr.hi; have := hp2.cap; omega) h9) (Nat.le_refl _))
  have hDp := HD hpk
  have hHp2 := hHp hpk
  have hmn : min (p : Int) 2 = ((min p 2 : Nat) : Int) := by omega
  have hm8 : p ≤ 30000000 := by omega
  obtain ⟨t, ht⟩ : ∃ t, t = ks[p] := ⟨_, rfl⟩
  rw [← ht] at hsum hDp hHp2
  have HK1 := Lib.hid (show p < (ks.map flat).length from by simpa using hpk)
  have HL1 := Lib.hid (show ∀ h : p < (ks.map flat).length, (ks.map flat)[p] = flat t from fun h => by rw [ht]; simp)
  have hpt := flat_pos t
  rw [hsp] at HCC
  generalize (flatAll ks).length = fl at *
  generalize sumT ks p = sp at *
  obtain ⟨mn, hmm⟩ : ∃ mn, mn = min p 2 := ⟨_, rfl⟩
  have hmn2 : mn ≤ 2 := by omega
  rw [← hmm] at hmn HCC
  clear HW HD hH hHp hp hmm hkl ht hpk hsp htl
  go_enter Tryd.func65, Tryd.ntmps65
  go_upto_region 1 with (fail)
  rw [HW1.out, ← HGX.out]
  clear HW1 HGX
  go_wp2_with fail
  refine HCC.out.mono ?_
  rintro e W' ⟨rfl, hs', hf'⟩
  replace HS := Lib.hid hs'
  replace HF := Lib.hid (HF.out.trans hf')
  clear hs' hf' HCC q0 q1 q4
  have HCC := Lib.hid (HS.out.op_ 38 mn 0 [] (fun m _ => by simp [okI, placeA, placeB, countA]) (by omega))
  go_wp2_with fail
  refine HCC.out.mono ?_
  rintro e W' ⟨P1, rfl, hX1, hL1, hP1, hs', hf'⟩
  replace HS := Lib.hid hs'
  replace HF := Lib.hid (HF.out.trans hf')
  clear hs' hf' HCC
  have HCC := Lib.hid (HS.out.push_ now (-(mn : Int)) (by omega) (by omega) (by omega))
  go_wp2_with fail
  refine HCC.out.mono ?_
  rintro e W' ⟨rfl, hs', hf'⟩
  replace HS := Lib.hid hs'
  replace HF := Lib.hid (HF.out.trans hf')
  clear hs' hf' HCC
  obtain ⟨Av, nv, cv, hkc, hcc⟩ := (HS.out.do_ (k := p) hDp HK1.out (HL1.out _) (by omega) (by omega) (by omega))
  have HCC := Lib.hid hcc
  clear hcc
  first | (simp only [Nat.add_zero] at hkc) | skip
  go_wp2_with fail
  refine HCC.out.mono ?_
  rintro e W' ⟨rfl, hs', hf'⟩
  replace HS := Lib.hid hs'
  replace HF := Lib.hid (HF.out.trans hf')
  clear hs' hf' HCC hkc
  have HCC := Lib.hid (HS.out.op_ 39 0 0 [] (fun m _ => by simp [okI, placeA, placeB, countA]) (by omega))
  go_wp2_with fail
  refine HCC.out.mono ?_
  rintro e W' ⟨P2, rfl, hX2, hL2, hP2, hs', hf'⟩
  replace HS := Lib.hid hs'
  replace HF := Lib.hid (HF.out.trans hf')
  clear hs' hf' HCC
  have HFIN := Lib.hid (HS.out.done (sz := 8 * fl + 4) (by omega))
  go_wp2_with fail
  go_returns
  exact HFIN.out
end Go.Proofs.YthmeonimianoeaaDoor
