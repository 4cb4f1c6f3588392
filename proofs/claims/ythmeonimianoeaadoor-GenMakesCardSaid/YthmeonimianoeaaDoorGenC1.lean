/- The walks over while, each, around: a command done as long as another one goes well, for each item, between two instructions. Bounds on the lengths. -/
import Derived.Test.YthmeonimianoeaaDoorGT
import Derived.Test.YthmeonimianoeaaDoorRelC
set_option linter.unusedVariables false
set_option linter.unusedSimpArgs false
namespace Go.Proofs.YthmeonimianoeaaDoor
open Go.RowKit
set_option maxRecDepth 100000 in
set_option maxHeartbeats 4000000 in
theorem around_any (t0 t1 : Tr) (HT0 : WordOk t0) (HT1 : DoOk t1) (iop oop a : Int) (s : List UInt8) (hop : (iop = 30 ∧ oop = 31) ∨ (iop = 32 ∧ oop = 33) ∨ (iop = 34 ∧ oop = 35)) (hs : s.length ≤ 2000) (base g : Nat) (X : List Ins) (now high H : Nat) (A : Option Addr) (c m : Nat) (w : World)
    (h : WrI w base g X now high) (hk : KdS base w A [flat t0, flat t1]) (hm : m = 2) (hbw : base ≤ w.heap.size) (hH0 : heightT t0 ≤ H) (hH1 : heightT t1 ≤ H) (h1H : 1 ≤ H)
    (hX : X.length + 8 * ((flat t0).length + (flat t1).length) + 4 ≤ 30000000) (hnow : now + (flat t0).length + (flat t1).length ≤ 30000000) (hhi : high ≤ 30000000) (hH9 : now + H ≤ 30000000) :
    Calls Tryd.prog 96 #[.pointer (some ⟨g, 0, none⟩), .slice A m c, .int .i64 iop, .int .i64 oop, .int .i64 a, .string ⟨s.toArray⟩] w (Wrote base g X now high now H (8 * ((flat t0).length + (flat t1).length) - 4) w) := by
  subst hm
  obtain ⟨kb, ko, _, rfl, -⟩ := hk.at_ (k := 0) (by simp)
  have HS := Lib.hid (St.start (H := H) h hk hbw ⟨hhi, hH9⟩)
  have HF := Lib.hid (FrW.refl base w)
  have p0 := flat_pos t0
  have p1 := flat_pos t1
  have HSL := Lib.hid hs
  clear h hk hs
  go_enter Tryd.func96, Tryd.ntmps96
  obtain ⟨Av, nv, cv, hkc, hcc⟩ := (HS.out.word_ (k := 0) HT0 (by simp) rfl (by omega) (by omega) (by omega))
  have HCC := Lib.hid hcc
  clear hcc
  first | (simp only [Nat.add_zero] at hkc) | skip
  go_wp2_with fail
  refine HCC.out.mono ?_
  rintro e W' ⟨rfl, hs', hf'⟩
  replace HS := Lib.hid hs'
  replace HF := Lib.hid (HF.out.trans hf')
  clear hs' hf' HCC hkc
  have HCC := Lib.hid (HS.out.op_ iop a 0 s (fun m _ => by rcases hop with ⟨rfl, _⟩ | ⟨rfl, _⟩ | ⟨rfl, _⟩ <;> simp [okI, placeA, placeB, countA, HSL.out] <;> omega) (by omega))
  go_wp2_with fail
  refine HCC.out.mono ?_
  rintro e W' ⟨P1, rfl, hX1, hL1, hP1, hs', hf'⟩
  replace HS := Lib.hid hs'
  replace HF := Lib.hid (HF.out.trans hf')
  clear hs' hf' HCC
  have HCC := Lib.hid (HS.out.push_ now (-1) (by omega) (by omega) (by omega))
  go_wp2_with fail
  refine HCC.out.mono ?_
  rintro e W' ⟨rfl, hs', hf'⟩
  replace HS := Lib.hid hs'
  replace HF := Lib.hid (HF.out.trans hf')
  clear hs' hf' HCC
  obtain ⟨Av, nv, cv, hkc, hcc⟩ := (HS.out.do_ (k := 1) HT1 (by simp) rfl (by omega) (by omega) (by omega))
  have HCC := Lib.hid hcc
  clear hcc
  first | (simp only [Nat.add_zero] at hkc) | skip
  go_wp2_with fail
  refine HCC.out.mono ?_
  rintro e W' ⟨rfl, hs', hf'⟩
  replace HS := Lib.hid hs'
  replace HF := Lib.hid (HF.out.trans hf')
  clear hs' hf' HCC hkc
  have HCC := Lib.hid (HS.out.op_ oop 0 0 [] (fun m _ => by rcases hop with ⟨_, rfl⟩ | ⟨_, rfl⟩ | ⟨_, rfl⟩ <;> simp [okI, placeA, placeB, countA]) (by omega))
  go_wp2_with fail
  refine HCC.out.mono ?_
  rintro e W' ⟨P2, rfl, hX2, hL2, hP2, hs', hf'⟩
  replace HS := Lib.hid hs'
  replace HF := Lib.hid (HF.out.trans hf')
  clear hs' hf' HCC
  by_cases h30 : iop = 30
  · obtain ⟨rfl, rfl⟩ : iop = 30 ∧ oop = 31 := by rcases hop with h | h | h <;> omega
    go_upto_region 6 with (fail)
    obtain ⟨ga, gc, gn, gP, gn8, l0, hhere, hst⟩ := HS.out.fill (P := P1) (by omega) (by omega) (by omega)
    have HHE := Lib.hid hhere
    have HST := Lib.hid hst
    clear hhere hst
    go_upto_region 6 with (fail)
    refine wp_region_mid 12 _ rfl rfl (by kernel_rfl) (by kernel_rfl) (by kernel_rfl) ?_
    apply EqGo.run
    focus
      kernel_rfl
    focus
      intro x K hK
      go_wp2_with fail
      first | exact hK x (Below.refl _ _) | exact Below.refl _ _
    simp only [Act.put, List.setIfInBounds_toArray, List.set_cons_succ, List.set_cons_zero]
    apply EqGo.run
    focus
      kernel_rfl
    focus
      intro x K hK
      go_wp2_with fail
      first | exact hK x (Below.refl _ _) | exact Below.refl _ _
    simp only [Act.put, List.setIfInBounds_toArray, List.set_cons_succ, List.set_cons_zero]
    apply EqGo.run
    focus
      kernel_rfl
    focus
      intro x K hK
      go_wp2_with fail
      first | exact hK x (Below.refl _ _) | exact Below.refl _ _
    simp only [Act.put, List.setIfInBounds_toArray, List.set_cons_succ, List.set_cons_zero]
    apply EqGo.run
    focus
      kernel_rfl
    focus
      intro x K hK
      go_wp2_with fail
      first | exact hK x (Below.refl _ _) | exact Below.refl _ _
    simp only [Act.put, List.setIfInBounds_toArray, List.set_cons_succ, List.set_cons_zero]
    apply EqGo.run
    focus
      kernel_rfl
    focus
      intro x K hK
      go_wp2_with fail
      first | exact hK x (Below.refl _ _) | exact Below.refl _ _
    simp only [Act.put, List.setIfInBounds_toArray, List.set_cons_succ, List.set_cons_zero]
    apply EqGo.run
    focus
      kernel_rfl
    focus
      intro x K hK
      go_wp2_with fail
      first | exact hK x (Below.refl _ _) | exact Below.refl _ _
    simp only [Act.put, List.setIfInBounds_toArray, List.set_cons_succ, List.set_cons_zero]
    apply EqGo.run
    focus
      kernel_rfl
    focus
      intro x K hK
      go_wp2_with fail
      first | exact hK x (Below.refl _ _) | exact Below.refl _ _
    simp only [Act.put, List.setIfInBounds_toArray, List.set_cons_succ, List.set_cons_zero]
    apply EqGo.run
    focus
      kernel_rfl
    focus
      intro x K hK
      go_wp2_with fail
      first | exact hK x (Below.refl _ _) | exact Below.refl _ _
    simp only [Act.put, List.setIfInBounds_toArray, List.set_cons_succ, List.set_cons_zero]
    apply EqGo.run
    focus
      kernel_rfl
    focus
      intro x K hK
      go_wp2_with fail
      first | exact hK x (Below.refl _ _) | exact Below.refl _ _
    simp only [Act.put, List.setIfInBounds_toArray, List.set_cons_succ, List.set_cons_zero]
    apply EqGo.run
    focus
      kernel_rfl
    focus
      intro x K hK
      go_wp2_with fail
      refine (Hid.out HHE x.val x.below).mono ?_
      rintro e x' ⟨rfl, hb'⟩
      exact hK ⟨x', x.below.trans (hb'.mono x.below.size)⟩ hb'
    simp only [Act.put, List.setIfInBounds_toArray, List.set_cons_succ, List.set_cons_zero]
    apply EqGo.run
    focus
      kernel_rfl
    focus
      intro x K hK
      go_wp2_with fail
      first | exact hK x (Below.refl _ _) | exact Below.refl _ _
    simp only [Act.put, List.setIfInBounds_toArray, List.set_cons_succ, List.set_cons_zero]
    apply EqGo.run
    focus
      kernel_rfl
    focus
      intro x K hK
      go_wp2_with fail
      first | exact hK x (Below.refl _ _) | exact Below.refl _ _
    simp only [Act.put, List.setIfInBounds_toArray, List.set_cons_succ, List.set_cons_zero]
    intro z K hK
    obtain ⟨⟨u1, hu1⟩, fu1, ⟨u2, hu2⟩, fu2, hsA, hfA, hsB, hfB⟩ := HST.out z.val z.below
    replace HF := Lib.hid (HF.out.trans hfB)
    replace HS := Lib.hid hsB
    clear hsA hfA hsB hfB HST HHE l0
    go_wp2_with fail
    refine hK undef _ ?_
    clear hK K hu1 fu1 hu2 fu2 u1 u2
    intro z2
    replace HF := Lib.hid (HF.out.trans (FrW.of z2.below HS.out.bw))
    replace HS := Lib.hid (HS.out.below z2.below)
    generalize z2.val = W' at *
    clear z2 gP gn8
    have HFIN := Lib.hid (HS.out.done (sz := 8 * ((flat t0).length + (flat t1).length) - 4) (by omega))
    go_wp2_with fail
    go_returns
    exact HFIN.out
  · have b30 : (iop == 30) = false := by simpa using h30
    have HFIN := Lib.hid (HS.out.done (sz := 8 * ((flat t0).length + (flat t1).length) - 4) (by omega))
    go_wp2_with fail
    go_returns
    exact HFIN.out
set_option maxRecDepth 100000 in
set_option maxHeartbeats 4000000 in
theorem each_any (t0 t1 : Tr) (HT0 : WordOk t0) (HT1 : DoOk t1) (s : List UInt8) (hs : s.length ≤ 2000) (base g : Nat) (X : List Ins) (now high H : Nat) (A : Option Addr) (c m : Nat) (w : World)
    (h : WrI w base g X now high) (hk : KdS base w A [flat t0, flat t1]) (hm : m = 2) (hbw : base ≤ w.heap.size) (hH0 : heightT t0 ≤ H) (hH1 : heightT t1 ≤ H)
    (hX : X.length + 8 * ((flat t0).length + (flat t1).length) + 8 ≤ 30000000) (hnow : now + (flat t0).length + (flat t1).length ≤ 30000000) (hhi : high ≤ 30000000) (hH9 : now + H ≤ 30000000) :
    Calls Tryd.prog 64 #[.pointer (some ⟨g, 0, none⟩), .string ⟨s.toArray⟩, .slice A m c] w (Wrote base g X now high now H (8 * ((flat t0).length + (flat t1).length) - 1) w) := by
  subst hm
  obtain ⟨kb, ko, _, rfl, -⟩ := hk.at_ (k := 0) (by simp)
  have HS := Lib.hid (St.start (H := H) h hk hbw ⟨hhi, hH9⟩)
  have HF := Lib.hid (FrW.refl base w)
  have p0 := flat_pos t0
  have p1 := flat_pos t1
  have HSL := Lib.hid hs
  clear h hk hs
  go_enter Tryd.func64, Tryd.ntmps64
  obtain ⟨Av, nv, cv, hkc, hcc⟩ := (HS.out.word_ (k := 0) HT0 (by simp) rfl (by omega) (by omega) (by omega))
  have HCC := Lib.hid hcc
  clear hcc
  first | (simp only [Nat.add_zero] at hkc) | skip
  go_wp2_with fail
  refine HCC.out.mono ?_
  rintro e W' ⟨rfl, hs', hf'⟩
  replace HS := Lib.hid hs'
  replace HF := Lib.hid (HF.out.trans hf')
  clear hs' hf' HCC hkc
  have HCC := Lib.hid (HS.out.op_ 21 0 0 [] (fun m _ => by simp [okI, placeA, placeB, countA]) (by omega))
  go_wp2_with fail
  refine HCC.out.mono ?_
  rintro e W' ⟨P1, rfl, hX1, hL1, hP1, hs', hf'⟩
  replace HS := Lib.hid hs'
  replace HF := Lib.hid (HF.out.trans hf')
  clear hs' hf' HCC
  have HCC := Lib.hid (HS.out.push_ now (-1) (by omega) (by omega) (by omega))
  go_wp2_with fail
  refine HCC.out.mono ?_
  rintro e W' ⟨rfl, hs', hf'⟩
  replace HS := Lib.hid hs'
  replace HF := Lib.hid (HF.out.trans hf')
  clear hs' hf' HCC
  have HCC := Lib.hid (HS.out.op_ 22 0 0 s (fun m _ => by simp [okI, placeA, placeB, countA, HSL.out]; omega) (by omega))
  go_wp2_with fail
  refine HCC.out.mono ?_
  rintro e W' ⟨P2, rfl, hX2, hL2, hP2, hs', hf'⟩
  replace HS := Lib.hid hs'
  replace HF := Lib.hid (HF.out.trans hf')
  clear hs' hf' HCC
  have HCC := Lib.hid (HS.out.op_ 14 0 0 [] (fun m _ => by simp [okI, placeA, placeB, countA]) (by omega))
  go_wp2_with fail
  refine HCC.out.mono ?_
  rintro e W' ⟨P3, rfl, hX3, hL3, hP3, hs', hf'⟩
  replace HS := Lib.hid hs'
  replace HF := Lib.hid (HF.out.trans hf')
  clear hs' hf' HCC
  have HCC := Lib.hid (HS.out.op_ 22 0 1 s (fun m _ => by simp [okI, placeA, placeB, countA, HSL.out]; omega) (by omega))
  go_wp2_with fail
  refine HCC.out.mono ?_
  rintro e W' ⟨P4, rfl, hX4, hL4, hP4, hs', hf'⟩
  replace HS := Lib.hid hs'
  replace HF := Lib.hid (HF.out.trans hf')
  clear hs' hf' HCC
  obtain ⟨Av, nv, cv, hkc, hcc⟩ := (HS.out.do_ (k := 1) HT1 (by simp) rfl (by omega) (by omega) (by omega))
  have HCC := Lib.hid hcc
  clear hcc
  first | (simp only [Nat.add_zero] at hkc) | skip
  go_wp2_with fail
  refine HCC.out.mono ?_
  rintro e W' ⟨rfl, hs', hf'⟩
  replace HS := Lib.hid hs'
  replace HF := Lib.hid (HF.out.trans hf')
  clear hs' hf' HCC hkc
  have HCC := Lib.hid (HS.out.op_ 18 P2 0 [] (fun m hm => by simp [okI, placeA, placeB, countA]; omega) (by omega))
  go_wp2_with fail
  refine HCC.out.mono ?_
  rintro e W' ⟨P5, rfl, hX5, hL5, hP5, hs', hf'⟩
  replace HS := Lib.hid hs'
  replace HF := Lib.hid (HF.out.trans hf')
  clear hs' hf' HCC
  obtain ⟨ga, gn, gc, hc0, hgn, hgn8⟩ := HS.out.cell0 (P := P2) (by omega) (by omega) (by omega)
  have HI0 := Lib.hid (show FillI base g X now high H w (some ⟨kb, ko, none⟩) [flat t0, flat t1] W' now (P5 + 1) _ ga gn gc [] { W' with drawn := W'.drawn + 1 } from ⟨HS.out.below (Below.refl _ _).drew, FrW.of (Below.refl _ _).drew HS.out.bw, hc0⟩)
  clear HS hc0
  go_upto_region 8 with (fail)
  apply wp_region_ph [22, 25] (FillI base g X now high H w (some ⟨kb, ko, none⟩) [flat t0, flat t1] W' now (P5 + 1) _ ga gn gc) [opE _, opE _, opE _, opE _, opE _, opE _, opE _, opE _, opE _, opE _, opE _, opE _, opE _, opE _, opE _, opE _, opE _, opE _, opE _, opE _, opE _, opE _, keyAny, opE _, opE _, keyAny] (by kernel_rfl) (by kernel_rfl) (by kernel_rfl) rfl rfl
  focus
    exact HI0.out
  focus
    skip
    refine ⟨?_, ?_⟩
    focus
      refine phOp (by kernel_rfl) fun kv x hlo hhi hI K hk => ?_
      clear hlo hhi
      have HI := Lib.hid hI
      clear hI
      go_wp2_with fail
      exact hk _ _ rfl HI.out
    rintro _ rfl
    simp only [Act.put, List.setIfInBounds_toArray, List.set_cons_succ, List.set_cons_zero]
    refine ⟨?_, ?_⟩
    focus
      refine phOp (by kernel_rfl) fun kv x hlo hhi hI K hk => ?_
      clear hlo hhi
      have HI := Lib.hid hI
      clear hI
      go_wp2_with fail
      exact hk _ _ rfl HI.out
    rintro _ rfl
    simp only [Act.put, List.setIfInBounds_toArray, List.set_cons_succ, List.set_cons_zero]
    refine ⟨?_, ?_⟩
    focus
      refine phOp (by kernel_rfl) fun kv x hlo hhi hI K hk => ?_
      clear hlo hhi
      have HI := Lib.hid hI
      clear hI
      go_wp2_with fail
      exact hk _ _ rfl HI.out
    rintro _ rfl
    simp only [Act.put, List.setIfInBounds_toArray, List.set_cons_succ, List.set_cons_zero]
    refine ⟨?_, ?_⟩
    focus
      refine phOp (by kernel_rfl) fun kv x hlo hhi hI K hk => ?_
      clear hlo hhi
      have HI := Lib.hid hI
      clear hI
      go_wp2_with fail
      exact hk _ _ rfl HI.out
    rintro _ rfl
    simp only [Act.put, List.setIfInBounds_toArray, List.set_cons_succ, List.set_cons_zero]
    refine ⟨?_, ?_⟩
    focus
      refine phOp (by kernel_rfl) fun kv x hlo hhi hI K hk => ?_
      have l0 := hI.2.2
      have HI := Lib.hid hI
      clear hI hlo hhi
      go_wp2_with fail
      exact hk _ _ rfl HI.out
    rintro _ rfl
    simp only [Act.put, List.setIfInBounds_toArray, List.set_cons_succ, List.set_cons_zero]
    refine ⟨?_, ?_⟩
    focus
      refine phOp (by kernel_rfl) fun kv x hlo hhi hI K hk => ?_
      clear hlo hhi
      have HI := Lib.hid hI
      clear hI
      go_wp2_with fail
      exact hk _ _ rfl HI.out
    rintro _ rfl
    simp only [Act.put, List.setIfInBounds_toArray, List.set_cons_succ, List.set_cons_zero]
    refine ⟨?_, ?_⟩
    focus
      refine phOp (by kernel_rfl) fun kv x hlo hhi hI K hk => ?_
      clear hlo hhi
      have HI := Lib.hid hI
      clear hI
      go_wp2_with fail
      exact hk _ _ rfl HI.out
    rintro _ rfl
    simp only [Act.put, List.setIfInBounds_toArray, List.set_cons_succ, List.set_cons_zero]
    refine ⟨?_, ?_⟩
    focus
      refine phOp (by kernel_rfl) fun kv x hlo hhi hI K hk => ?_
      clear hlo hhi
      have HI := Lib.hid hI
      clear hI
      go_wp2_with fail
      exact hk _ _ rfl HI.out
    rintro _ rfl
    simp only [Act.put, List.setIfInBounds_toArray, List.set_cons_succ, List.set_cons_zero]
    refine ⟨?_, ?_⟩
    focus
      refine phOp (by kernel_rfl) fun kv x hlo hhi hI K hk => ?_
      clear hlo hhi
      have HI := Lib.hid hI
      clear hI
      go_wp2_with fail
      exact hk _ _ rfl HI.out
    rintro _ rfl
    simp only [Act.put, List.setIfInBounds_toArray, List.set_cons_succ, List.set_cons_zero]
    refine ⟨?_, ?_⟩
    focus
      refine phOp (by kernel_rfl) fun kv x hlo hhi hI K hk => ?_
      clear hlo hhi
      have HI := Lib.hid hI
      clear hI
      go_wp2_with fail
      exact hk _ _ rfl HI.out
    rintro _ rfl
    simp only [Act.put, List.setIfInBounds_toArray, List.set_cons_succ, List.set_cons_zero]
    refine ⟨?_, ?_⟩
    focus
      refine phOp (by kernel_rfl) fun kv x hlo hhi hI K hk => ?_
      have l0 := hI.2.2
      have HI := Lib.hid hI
      clear hI hlo hhi
      go_wp2_with fail
      exact hk _ _ rfl HI.out
    rintro _ rfl
    simp only [Act.put, List.setIfInBounds_toArray, List.set_cons_succ, List.set_cons_zero]
    refine ⟨?_, ?_⟩
    focus
      refine phOp (by kernel_rfl) fun kv x hlo hhi hI K hk => ?_
      clear hlo hhi
      have HI := Lib.hid hI
      clear hI
      go_wp2_with fail
      exact hk _ _ rfl HI.out
    rintro _ rfl
    simp only [Act.put, List.setIfInBounds_toArray, List.set_cons_succ, List.set_cons_zero]
    refine ⟨?_, ?_⟩
    focus
      refine phOp (by kernel_rfl) fun kv x hlo hhi hI K hk => ?_
      clear hlo hhi
      have HI := Lib.hid hI
      clear hI
      go_wp2_with fail
      exact hk _ _ rfl HI.out
    rintro _ rfl
    simp only [Act.put, List.setIfInBounds_toArray, List.set_cons_succ, List.set_cons_zero]
    refine ⟨?_, ?_⟩
    focus
      refine phOp (by kernel_rfl) fun kv x hlo hhi hI K hk => ?_
      clear hlo hhi
      have HI := Lib.hid hI
      clear hI
      go_wp2_with fail
      exact hk _ _ rfl HI.out
    rintro _ rfl
    simp only [Act.put, List.setIfInBounds_toArray, List.set_cons_succ, List.set_cons_zero]
    refine ⟨?_, ?_⟩
    focus
      refine phOp (by kernel_rfl) fun kv x hlo hhi hI K hk => ?_
      clear hlo hhi
      have HI := Lib.hid hI
      clear hI
      go_wp2_with fail
      exact hk _ _ rfl HI.out
    rintro _ rfl
    simp only [Act.put, List.setIfInBounds_toArray, List.set_cons_succ, List.set_cons_zero]
    refine ⟨?_, ?_⟩
    focus
      refine phOp (by kernel_rfl) fun kv x hlo hhi hI K hk => ?_
      have HHE := Lib.hid (hI.1.fill2 hI.2.2 (P := P2) (by omega) (by omega) gn (Nat.le_refl _)).1
      have HI := Lib.hid hI
      clear hI hlo hhi
      go_wp2_with fail
      refine HHE.out.mono ?_
      rintro e x' ⟨rfl, hx'⟩
      exact hk _ _ rfl (hx'.symm ▸ HI.out)
    rintro _ rfl
    simp only [Act.put, List.setIfInBounds_toArray, List.set_cons_succ, List.set_cons_zero]
    refine ⟨?_, ?_⟩
    focus
      refine phOp (by kernel_rfl) fun kv x hlo hhi hI K hk => ?_
      clear hlo hhi
      have HI := Lib.hid hI
      clear hI
      go_wp2_with fail
      exact hk _ _ rfl HI.out
    rintro _ rfl
    simp only [Act.put, List.setIfInBounds_toArray, List.set_cons_succ, List.set_cons_zero]
    refine ⟨?_, ?_⟩
    focus
      refine phOp (by kernel_rfl) fun kv x hlo hhi hI K hk => ?_
      clear hlo hhi
      have HI := Lib.hid hI
      clear hI
      go_wp2_with fail
      exact hk _ _ rfl HI.out
    rintro _ rfl
    simp only [Act.put, List.setIfInBounds_toArray, List.set_cons_succ, List.set_cons_zero]
    refine ⟨?_, ?_⟩
    focus
      refine phOp (by kernel_rfl) fun kv x hlo hhi hI K hk => ?_
      clear hlo hhi
      have HI := Lib.hid hI
      clear hI
      go_wp2_with fail
      exact hk _ _ rfl HI.out
    rintro _ rfl
    simp only [Act.put, List.setIfInBounds_toArray, List.set_cons_succ, List.set_cons_zero]
    refine ⟨?_, ?_⟩
    focus
      refine phOp (by kernel_rfl) fun kv x hlo hhi hI K hk => ?_
      have HHE := Lib.hid (hI.1.fill2 hI.2.2 (P := P2) (by omega) (by omega) gn (Nat.le_refl _)).1
      have HI := Lib.hid hI
      clear hI hlo hhi
      go_wp2_with fail
      refine HHE.out.mono ?_
      rintro e x' ⟨rfl, hx'⟩
      exact hk _ _ rfl (hx'.symm ▸ HI.out)
    rintro _ rfl
    simp only [Act.put, List.setIfInBounds_toArray, List.set_cons_succ, List.set_cons_zero]
    refine ⟨?_, ?_⟩
    focus
      refine phOp (by kernel_rfl) fun kv x hlo hhi hI K hk => ?_
      clear hlo hhi
      have HI := Lib.hid hI
      clear hI
      go_wp2_with fail
      exact hk _ _ rfl HI.out
    rintro _ rfl
    simp only [Act.put, List.setIfInBounds_toArray, List.set_cons_succ, List.set_cons_zero]
    refine ⟨?_, ?_⟩
    focus
      refine phOp (by kernel_rfl) fun kv x hlo hhi hI K hk => ?_
      clear hlo hhi
      have HI := Lib.hid hI
      clear hI
      go_wp2_with fail
      exact hk _ _ rfl HI.out
    rintro _ rfl
    simp only [Act.put, List.setIfInBounds_toArray, List.set_cons_succ, List.set_cons_zero]
    refine ⟨?_, ?_⟩
    focus
      refine phKey (by kernel_rfl) fun y hI K hk => ?_
      obtain ⟨_, ⟨u1, hu1⟩, fu1, hsA, hfA, hcA⟩ := hI.1.fill2 hI.2.2 (P := P2) (by omega) (by omega) gn (Nat.le_refl _)
      have HNX := Lib.hid (And.intro hsA (And.intro (hI.2.1.trans hfA) hcA))
      clear hI hsA hfA hcA
      go_wp2_with fail
      exact hk undef _ trivial HNX.out
    rintro _ -
    simp only [Act.put, List.setIfInBounds_toArray, List.set_cons_succ, List.set_cons_zero]
    refine ⟨?_, ?_⟩
    focus
      refine phOp (by kernel_rfl) fun kv x hlo hhi hI K hk => ?_
      clear hlo hhi
      have HI := Lib.hid hI
      clear hI
      go_wp2_with fail
      exact hk _ _ rfl HI.out
    rintro _ rfl
    simp only [Act.put, List.setIfInBounds_toArray, List.set_cons_succ, List.set_cons_zero]
    refine ⟨?_, ?_⟩
    focus
      refine phOp (by kernel_rfl) fun kv x hlo hhi hI K hk => ?_
      clear hlo hhi
      have HI := Lib.hid hI
      clear hI
      go_wp2_with fail
      exact hk _ _ rfl HI.out
    rintro _ rfl
    simp only [Act.put, List.setIfInBounds_toArray, List.set_cons_succ, List.set_cons_zero]
    refine ⟨?_, ?_⟩
    focus
      refine phKey (by kernel_rfl) fun y hI K hk => ?_
      obtain ⟨_, ⟨u1, hu1⟩, fu1, hsA, hfA, hcA⟩ := hI.1.fill2 hI.2.2 (P := P4) (by omega) (by omega) gn (Nat.le_refl _)
      have HNX := Lib.hid (And.intro hsA (And.intro (hI.2.1.trans hfA) hcA))
      clear hI hsA hfA hcA
      go_wp2_with fail
      exact hk undef _ trivial HNX.out
    rintro _ -
    simp only [Act.put, List.setIfInBounds_toArray, List.set_cons_succ, List.set_cons_zero]
    intro x hx
    have HFIN := Lib.hid (hx.1.done (sz := 8 * ((flat t0).length + (flat t1).length) - 1) (by omega))
    clear hx
    go_wp2_with fail
    go_returns
    exact HFIN.out
end Go.Proofs.YthmeonimianoeaaDoor
