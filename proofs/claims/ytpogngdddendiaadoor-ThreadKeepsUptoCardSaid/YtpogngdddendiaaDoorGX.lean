/- The walks over while, each, around: a command done as long as another one goes well, for each item, between two instructions. Bounds on the lengths. -/
import Derived.Test.YtpogngdddendiaaDoorGT
import Derived.Test.YtpogngdddendiaaDoorGR
set_option linter.unusedVariables false
set_option linter.unusedSimpArgs false
namespace Go.Proofs.YtpogngdddendiaaDoor
open Go.RowKit
set_option maxRecDepth 100000 in
set_option maxHeartbeats 4000000 in
theorem around_any (t0 t1 : Tr) (HT0 : WordOk t0) (HT1 : DoOk t1) (iop oop a : Int) (s : List UInt8) (hop : (iop = 30 ∧ oop = 31) ∨ (iop = 32 ∧ oop = 33) ∨ (iop = 34 ∧ oop = 35)) (hs : s.length ≤ 2000) (base g : Nat) (X : List Ins) (now high H : Nat) (A : Option Addr) (c m : Nat) (w : World)
    (h : WrI w base g X now high) (hk : KdS base w A [flat t0, flat t1]) (hm : m = 2) (hbw : base ≤ w.heap.size) (hH0 : heightT t0 ≤ H) (hH1 : heightT t1 ≤ H) (h1H : 1 ≤ H)
    (hX : X.length + 8 * ((flat t0).length + (flat t1).length) + 4 ≤ 30000000) (hnow : now + (flat t0).length + (flat t1).length ≤ 30000000) (hhi : high ≤ 30000000) (hH9 : now + H ≤ 30000000) :
    Calls Tryd.prog 97 #[.pointer (some ⟨g, 0, none⟩), .slice A m c, .int .i64 iop, .int .i64 oop, .int .i64 a, .string ⟨s.toArray⟩] w (Wrote base g X now high now H (8 * ((flat t0).length + (flat t1).length) - 4) w) := by
  subst hm
  obtain ⟨kb, ko, _, rfl, -⟩ := hk.at_ (k := 0) (by simp)
  have HS := Lib.hid (St.start (H := H) h hk hbw ⟨hhi, hH9⟩)
  have HF := Lib.hid (FrW.refl base w)
  have p0 := flat_pos t0
  have p1 := flat_pos t1
  have HSL := Lib.hid hs
  clear h hk hs
  go_enter Tryd.func97, Tryd.ntmps97
  obtain ⟨Av, nv, cv, hkc, hcc⟩ := (HS.out.word_ (k := 0) HT0 (by simp) rfl (by omega) (by omega) (by omega))
  have HCC := Lib.hid hcc
  clear hcc
  first | (simp only [Nat.add_zero] at hkc) | skip
  go_wp2_with fail
  refine HCC.out.mono ?_
  rintro e W' ⟨rfl, hs', hf'⟩
  replace HS := Lib.hid hs'
  replace HF := Lib.hid (HF.out.trans hf')
  clear hs' hf' HCC hkc
  have HCC := Lib.hid (HS.out.op_ iop a 0 s (fun m _ => by rcases hop with ⟨rfl, _⟩ | ⟨rfl, _⟩ | ⟨rfl, _⟩ <;> simp [okI, placeA, placeB, countA, HSL.out] <;> omega) (by omega))
  go_wp2_with fail
  refine HCC.out.mono ?_
  rintro e W' ⟨P1, rfl, hX1, hL1, hP1, hs', hf'⟩
  replace HS := Lib.hid hs'
  replace HF := Lib.hid (HF.out.trans hf')
  clear hs' hf' HCC
  have HCC := Lib.hid (HS.out.push_ now (-1) (by omega) (by omega) (by omega))
  go_wp2_with fail
  refine HCC.out.mono ?_
  rintro e W' ⟨rfl, hs', hf'⟩
  replace HS := Lib.hid hs'
  replace HF := Lib.hid (HF.out.trans hf')
  clear hs' hf' HCC
  obtain ⟨Av, nv, cv, hkc, hcc⟩ := (HS.out.do_ (k := 1) HT1 (by simp) rfl (by omega) (by omega) (by omega))
  have HCC := Lib.hid hcc
  clear hcc
  first | (simp only [Nat.add_zero] at hkc) | skip
  go_wp2_with fail
  refine HCC.out.mono ?_
  rintro e W' ⟨rfl, hs', hf'⟩
  replace HS := Lib.hid hs'
  replace HF := Lib.hid (HF.out.trans hf')
  clear hs' hf' HCC hkc
  have HCC := Lib.hid (HS.out.op_ oop 0 0 [] (fun m _ => by rcases hop with ⟨_, rfl⟩ | ⟨_, rfl⟩ | ⟨_, rfl⟩ <;> simp [okI, placeA, placeB, countA]) (by omega))
  go_wp2_with fail
  refine HCC.out.mono ?_
  rintro e W' ⟨P2, rfl, hX2, hL2, hP2, hs', hf'⟩
  replace HS := Lib.hid hs'
  replace HF := Lib.hid (HF.out.trans hf')
  clear hs' hf' HCC
  by_cases h30 : iop = 30
  · obtain ⟨rfl, rfl⟩ : iop = 30 ∧ oop = 31 := by rcases hop with h | h | h <;> omega
    go_upto_region 6 with (fail)
    obtain ⟨ga, gc, gn, gP, gn8, l0, hhere, hst⟩ := HS.out.fill (P := P1) (by omega) (by omega) (by omega)
    have HHE := Lib.hid hhere
    have HST := Lib.hid hst
    clear hhere hst
    go_upto_region 6 with (fail)
    refine wp_region_mid 12 _ rfl rfl (by kernel_rfl) (by kernel_rfl) (by kernel_rfl) ?_
    apply EqGo.run
    focus
      kernel_rfl
    focus
      intro x K hK
      go_wp2_with fail
      first | exact hK x (Below.refl _ _) | exact Below.refl _ _
    simp only [Act.put, List.setIfInBounds_toArray, List.set_cons_succ, List.set_cons_zero]
    apply EqGo.run
    focus
      kernel_rfl
    focus
      intro x K hK
      go_wp2_with fail
      first | exact hK x (Below.refl _ _) | exact Below.refl _ _
    simp only [Act.put, List.setIfInBounds_toArray, List.set_cons_succ, List.set_cons_zero]
    apply EqGo.run
    focus
      kernel_rfl
    focus
      intro x K hK
      go_wp2_with fail
      first | exact hK x (Below.refl _ _) | exact Below.refl _ _
    simp only [Act.put, List.setIfInBounds_toArray, List.set_cons_succ, List.set_cons_zero]
    apply EqGo.run
    focus
      kernel_rfl
    focus
      intro x K hK
      go_wp2_with fail
      first | exact hK x (Below.refl _ _) | exact Below.refl _ _
    simp only [Act.put, List.setIfInBounds_toArray, List.set_cons_succ, List.set_cons_zero]
    apply EqGo.run
    focus
      kernel_rfl
    focus
      intro x K hK
      go_wp2_with fail
      first | exact hK x (Below.refl _ _) | exact Below.refl _ _
    simp only [Act.put, List.setIfInBounds_toArray, List.set_cons_succ, List.set_cons_zero]
    apply EqGo.run
    focus
      kernel_rfl
    focus
      intro x K hK
      go_wp2_with fail
      first | exact hK x (Below.refl _ _) | exact Below.refl _ _
    simp only [Act.put, List.setIfInBounds_toArray, List.set_cons_succ, List.set_cons_zero]
    apply EqGo.run
    focus
      kernel_rfl
    focus
      intro x K hK
      go_wp2_with fail
      first | exact hK x (Below.refl _ _) | exact Below.refl _ _
    simp only [Act.put, List.setIfInBounds_toArray, List.set_cons_succ, List.set_cons_zero]
    apply EqGo.run
    focus
      kernel_rfl
    focus
      intro x K hK
      go_wp2_with fail
      first | exact hK x (Below.refl _ _) | exact Below.refl _ _
    simp only [Act.put, List.setIfInBounds_toArray, List.set_cons_succ, List.set_cons_zero]
    apply EqGo.run
    focus
      kernel_rfl
    focus
      intro x K hK
      go_wp2_with fail
      first | exact hK x (Below.refl _ _) | exact Below.refl _ _
    simp only [Act.put, List.setIfInBounds_toArray, List.set_cons_succ, List.set_cons_zero]
    apply EqGo.run
    focus
      kernel_rfl
    focus
      intro x K hK
      go_wp2_with fail
      refine (Hid.out HHE x.val x.below).mono ?_
      rintro e x' ⟨rfl, hb'⟩
      exact hK ⟨x', x.below.trans (hb'.mono x.below.size)⟩ hb'
    simp only [Act.put, List.setIfInBounds_toArray, List.set_cons_succ, List.set_cons_zero]
    apply EqGo.run
    focus
      kernel_rfl
    focus
      intro x K hK
      go_wp2_with fail
      first | exact hK x (Below.refl _ _) | exact Below.refl _ _
    simp only [Act.put, List.setIfInBounds_toArray, List.set_cons_succ, List.set_cons_zero]
    apply EqGo.run
    focus
      kernel_rfl
    focus
      intro x K hK
      go_wp2_with fail
      first | exact hK x (Below.refl _ _) | exact Below.refl _ _
    simp only [Act.put, List.setIfInBounds_toArray, List.set_cons_succ, List.set_cons_zero]
    intro z K hK
    obtain ⟨⟨u1, hu1⟩, fu1, ⟨u2, hu2⟩, fu2, hsA, hfA, hsB, hfB⟩ := HST.out z.val z.below
    replace HF := Lib.hid (HF.out.trans hfB)
    replace HS := Lib.hid hsB
    clear hsA hfA hsB hfB HST HHE l0
    go_wp2_with fail
    refine hK undef _ ?_
    clear hK K hu1 fu1 hu2 fu2 u1 u2
    intro z2
    replace HF := Lib.hid (HF.out.trans (FrW.of z2.below HS.out.bw))
    replace HS := Lib.hid (HS.out.below z2.below)
    generalize z2.val = W' at *
    clear z2 gP gn8
    have HFIN := Lib.hid (HS.out.done (sz := 8 * ((flat t0).length + (flat t1).length) - 4) (by omega))
    go_wp2_with fail
    go_returns
    exact HFIN.out
  · have b30 : (iop == 30) = false := by simpa using h30
    have HFIN := Lib.hid (HS.out.done (sz := 8 * ((flat t0).length + (flat t1).length) - 4) (by omega))
    go_wp2_with fail
    go_returns
    exact HFIN.out
set_option maxRecDepth 100000 in
set_option maxHeartbeats 4000000 in
theorem each_any (t0 t1 : Tr) (HT0 : WordOk t0) (HT1 : DoOk t1) (s : List UInt8) (hs : s.length ≤ 2000) (base g : Nat) (X : List Ins) (now high H : Nat) (A : Option Addr) (c m : Nat) (w : World)
    (h : WrI w base g X now high) (hk : KdS base w A [flat t0, flat t1]) (hm : m = 2) (hbw : base ≤ w.heap.size) (hH0 : heightT t0 ≤ H) (hH1 : heightT t1 ≤ H)
    (hX : X.length + 8 * ((flat t0).length + (flat t1).length) + 8 ≤ 30000000) (hnow : now + (flat t0).length + (flat t1).length ≤ 30000000) (hhi : high ≤ 30000000) (hH9 : now + H ≤ 30000000) :
    Calls Tryd.prog 67 #[.pointer (some ⟨g, 0, none⟩), .string ⟨s.toArray⟩, .slice A m c] w (Wrote base g X now high now H (8 * ((flat t0).length + (flat t1).length) - 1) w) := by
  subst hm
  obtain ⟨kb, ko, _, rfl, -⟩ := hk.at_ (k := 0) (by simp)
  have HS := Lib.hid (St.start (H := H) h hk hbw ⟨hhi, hH9⟩)
  have HF := Lib.hid (FrW.refl base w)
  have p0 := flat_pos t0
  have p1 := flat_pos t1
  have HSL := Lib.hid hs
  clear h hk hs
  go_enter Tryd.func67, Tryd.ntmps67
  obtain ⟨Av, nv, cv, hkc, hcc⟩ := (HS.out.word_ (k := 0) HT0 (by simp) rfl (by omega) (by omega) (by omega))
  have HCC := Lib.hid hcc
  clear hcc
  first | (simp only [Nat.add_zero] at hkc) | skip
  go_wp2_with fail
  refine HCC.out.mono ?_
  rintro e W' ⟨rfl, hs', hf'⟩
  replace HS := Lib.hid hs'
  replace HF := Lib.hid (HF.out.trans hf')
  clear hs' hf' HCC hkc
  have HCC := Lib.hid (HS.out.op_ 21 0 0 [] (fun m _ => by simp [okI, placeA, placeB, countA]) (by omega))
  go_wp2_with fail
  refine HCC.out.mono ?_
  rintro e W' ⟨P1, rfl, hX1, hL1, hP1, hs', hf'⟩
  replace HS := Lib.hid hs'
  replace HF := Lib.hid (HF.out.trans hf')
  clear hs' hf' HCC
  have HCC := Lib.hid (HS.out.push_ now (-1) (by omega) (by omega) (by omega))
  go_wp2_with fail
  refine HCC.out.mono ?_
  rintro e W' ⟨rfl, hs', hf'⟩
  replace HS := Lib.hid hs'
  replace HF := Lib.hid (HF.out.trans hf')
  clear hs' hf' HCC
  have HCC := Lib.hid (HS.out.op_ 22 0 0 s (fun m _ => by simp [okI, placeA, placeB, countA, HSL.out]; omega) (by omega))
  go_wp2_with fail
  refine HCC.out.mono ?_
  rintro e W' ⟨P2, rfl, hX2, hL2, hP2, hs', hf'⟩
  replace HS := Lib.hid hs'
  replace HF := Lib.hid (HF.out.trans hf')
  clear hs' hf' HCC
  have HCC := Lib.hid (HS.out.op_ 14 0 0 [] (fun m _ => by simp [okI, placeA, placeB, countA]) (by omega))
  go_wp2_with fail
  refine HCC.out.mono ?_
  rintro e W' ⟨P3, rfl, hX3, hL3, hP3, hs', hf'⟩
  replace HS := Lib.hid hs'
  replace HF := Lib.hid (HF.out.trans hf')
  clear hs' hf' HCC
  have HCC := Lib.hid (HS.out.op_ 22 0 1 s (fun m _ => by simp [okI, placeA, placeB, countA, HSL.out]; omega) (by omega))
  go_wp2_with fail
  refine HCC.out.mono ?_
  rintro e W' ⟨P4, rfl, hX4, hL4, hP4, hs', hf'⟩
  replace HS := Lib.hid hs'
  replace HF := Lib.hid (HF.out.trans hf')
  clear hs' hf' HCC
  obtain ⟨Av, nv, cv, hkc, hcc⟩ := (HS.out.do_ (k := 1) HT1 (by simp) rfl (by omega) (by omega) (by omega))
  have HCC := Lib.hid hcc
  clear hcc
  first | (simp only [Nat.add_zero] at hkc) | skip
  go_wp2_with fail
  refine HCC.out.mono ?_
  rintro e W' ⟨rfl, hs', hf'⟩
  replace HS := Lib.hid hs'
  replace HF := Lib.hid (HF.out.trans hf')
  clear hs' hf' HCC hkc
  have HCC := Lib.hid (HS.out.op_ 18 P2 0 [] (fun m hm => by simp [okI, placeA, placeB, countA]; omega) (by omega))
  go_wp2_with fail
  refine HCC.out.mono ?_
  rintro e W' ⟨P5, rfl, hX5, hL5, hP5, hs', hf'⟩
  replace HS := Lib.hid hs'
  replace HF := Lib.hid (HF.out.trans hf')
  clear hs' hf' HCC
  obtain ⟨ga, gn, gc, hc0, hgn, hgn8⟩ := HS.out.cell0 (P := P2) (by omega) (by omega) (by omega)
  have HI0 := Lib.hid (show FillI base g X now high H w (some ⟨kb, ko, none⟩) [flat t0, flat t1] W' now (P5 + 1) _ ga gn gc [] { W' with drawn := W'.drawn + 1 } from ⟨HS.out.below (Below.refl _ _).drew, FrW.of (Below.refl _ _).drew HS.out.bw, hc0⟩)
  clear HS hc0
  go_upto_region 8 with (fail)
  apply wp_region_ph [22, 25] (FillI base g X now high H w (some ⟨kb, ko, none⟩) [flat t0, flat t1] W' now (P5 + 1) _ ga gn gc) [opE _, opE _, opE _, opE _, opE _, opE _, opE _, opE _, opE _, opE _, opE _, opE _, opE _, opE _, opE _, opE _, opE _, opE _, opE _, opE _, opE _, opE _, keyAny, opE _, opE _, keyAny] (by kernel_rfl) (by kernel_rfl) (by kernel_rfl) rfl rfl
  focus
    exact HI0.out
  focus
    skip
    refine ⟨?_, ?_⟩
    focus
      refine phOp (by kernel_rfl) fun kv x hlo hhi hI K hk => ?_
      clear hlo hhi
      have HI := Lib.hid hI
      clear hI
      go_wp2_with fail
      exact hk _ _ rfl HI.out
    rintro _ rfl
    simp only [Act.put, List.setIfInBounds_toArray, List.set_cons_succ, List.set_cons_zero]
    refine ⟨?_, ?_⟩
    focus
      refine phOp (by kernel_rfl) fun kv x hlo hhi hI K hk => ?_
      clear hlo hhi
      have HI := Lib.hid hI
      clear hI
      go_wp2_with fail
      exact hk _ _ rfl HI.out
    rintro _ rfl
    simp only [Act.put, List.setIfInBounds_toArray, List.set_cons_succ, List.set_cons_zero]
    refine ⟨?_, ?_⟩
    focus
      refine phOp (by kernel_rfl) fun kv x hlo hhi hI K hk => ?_
      clear hlo hhi
      have HI := Lib.hid hI
      clear hI
      go_wp2_with fail
      exact hk _ _ rfl HI.out
    rintro _ rfl
    simp only [Act.put, List.setIfInBounds_toArray, List.set_cons_succ, List.set_cons_zero]
    refine ⟨?_, ?_⟩
    focus
      refine phOp (by kernel_rfl) fun kv x hlo hhi hI K hk => ?_
      clear hlo hhi
      have HI := Lib.hid hI
      clear hI
      go_wp2_with fail
      exact hk _ _ rfl HI.out
    rintro _ rfl
    simp only [Act.put, List.setIfInBounds_toArray, List.set_cons_succ, List.set_cons_zero]
    refine ⟨?_, ?_⟩
    focus
      refine phOp (by kernel_rfl) fun kv x hlo hhi hI K hk => ?_
      have l0 := hI.2.2
      have HI := Lib.hid hI
      clear hI hlo hhi
      go_wp2_with fail
      exact hk _ _ rfl HI.out
    rintro _ rfl
    simp only [Act.put, List.setIfInBounds_toArray, List.set_cons_succ, List.set_cons_zero]
    refine ⟨?_, ?_⟩
    focus
      refine phOp (by kernel_rfl) fun kv x hlo hhi hI K hk => ?_
      clear hlo hhi
      have HI := Lib.hid hI
      clear hI
      go_wp2_with fail
      exact hk _ _ rfl HI.out
    rintro _ rfl
    simp only [Act.put, List.setIfInBounds_toArray, List.set_cons_succ, List.set_cons_zero]
    refine ⟨?_, ?_⟩
    focus
      refine phOp (by kernel_rfl) fun kv x hlo hhi hI K hk => ?_
      clear hlo hhi
      have HI := Lib.hid hI
      clear hI
      go_wp2_with fail
      exact hk _ _ rfl HI.out
    rintro _ rfl
    simp only [Act.put, List.setIfInBounds_toArray, List.set_cons_succ, List.set_cons_zero]
    refine ⟨?_, ?_⟩
    focus
      refine phOp (by kernel_rfl) fun kv x hlo hhi hI K hk => ?_
      clear hlo hhi
      have HI := Lib.hid hI
      clear hI
      go_wp2_with fail
      exact hk _ _ rfl HI.out
    rintro _ rfl
    simp only [Act.put, List.setIfInBounds_toArray, List.set_cons_succ, List.set_cons_zero]
    refine ⟨?_, ?_⟩
    focus
      refine phOp (by kernel_rfl) fun kv x hlo hhi hI K hk => ?_
      clear hlo hhi
      have HI := Lib.hid hI
      clear hI
      go_wp2_with fail
      exact hk _ _ rfl HI.out
    rintro _ rfl
    simp only [Act.put, List.setIfInBounds_toArray, List.set_cons_succ, List.set_cons_zero]
    refine ⟨?_, ?_⟩
    focus
      refine phOp (by kernel_rfl) fun kv x hlo hhi hI K hk => ?_
      clear hlo hhi
      have HI := Lib.hid hI
      clear hI
      go_wp2_with fail
      exact hk _ _ rfl HI.out
    rintro _ rfl
    simp only [Act.put, List.setIfInBounds_toArray, List.set_cons_succ, List.set_cons_zero]
    refine ⟨?_, ?_⟩
    focus
      refine phOp (by kernel_rfl) fun kv x hlo hhi hI K hk => ?_
      have l0 := hI.2.2
      have HI := Lib.hid hI
      clear hI hlo hhi
      go_wp2_with fail
      exact hk _ _ rfl HI.out
    rintro _ rfl
    simp only [Act.put, List.setIfInBounds_toArray, List.set_cons_succ, List.set_cons_zero]
    refine ⟨?_, ?_⟩
    focus
      refine phOp (by kernel_rfl) fun kv x hlo hhi hI K hk => ?_
      clear hlo hhi
      have HI := Lib.hid hI
      clear hI
      go_wp2_with fail
      exact hk _ _ rfl HI.out
    rintro _ rfl
    simp only [Act.put, List.setIfInBounds_toArray, List.set_cons_succ, List.set_cons_zero]
    refine ⟨?_, ?_⟩
    focus
      refine phOp (by kernel_rfl) fun kv x hlo hhi hI K hk => ?_
      clear hlo hhi
      have HI := Lib.hid hI
      clear hI
      go_wp2_with fail
      exact hk _ _ rfl HI.out
    rintro _ rfl
    simp only [Act.put, List.setIfInBounds_toArray, List.set_cons_succ, List.set_cons_zero]
    refine ⟨?_, ?_⟩
    focus
      refine phOp (by kernel_rfl) fun kv x hlo hhi hI K hk => ?_
      clear hlo hhi
      have HI := Lib.hid hI
      clear hI
      go_wp2_with fail
      exact hk _ _ rfl HI.out
    rintro _ rfl
    simp only [Act.put, List.setIfInBounds_toArray, List.set_cons_succ, List.set_cons_zero]
    refine ⟨?_, ?_⟩
    focus
      refine phOp (by kernel_rfl) fun kv x hlo hhi hI K hk => ?_
      clear hlo hhi
      have HI := Lib.hid hI
      clear hI
      go_wp2_with fail
      exact hk _ _ rfl HI.out
    rintro _ rfl
    simp only [Act.put, List.setIfInBounds_toArray, List.set_cons_succ, List.set_cons_zero]
    refine ⟨?_, ?_⟩
    focus
      refine phOp (by kernel_rfl) fun kv x hlo hhi hI K hk => ?_
      have HHE := Lib.hid (hI.1.fill2 hI.2.2 (P := P2) (by omega) (by omega) gn (Nat.le_refl _)).1
      have HI := Lib.hid hI
      clear hI hlo hhi
      go_wp2_with fail
      refine HHE.out.mono ?_
      rintro e x' ⟨rfl, hx'⟩
      exact hk _ _ rfl (hx'.symm ▸ HI.out)
    rintro _ rfl
    simp only [Act.put, List.setIfInBounds_toArray, List.set_cons_succ, List.set_cons_zero]
    refine ⟨?_, ?_⟩
    focus
      refine phOp (by kernel_rfl) fun kv x hlo hhi hI K hk => ?_
      clear hlo hhi
      have HI := Lib.hid hI
      clear hI
      go_wp2_with fail
      exact hk _ _ rfl HI.out
    rintro _ rfl
    simp only [Act.put, List.setIfInBounds_toArray, List.set_cons_succ, List.set_cons_zero]
    refine ⟨?_, ?_⟩
    focus
      refine phOp (by kernel_rfl) fun kv x hlo hhi hI K hk => ?_
      clear hlo hhi
      have HI := Lib.hid hI
      clear hI
      go_wp2_with fail
      exact hk _ _ rfl HI.out
    rintro _ rfl
    simp only [Act.put, List.setIfInBounds_toArray, List.set_cons_succ, List.set_cons_zero]
    refine ⟨?_, ?_⟩
    focus
      refine phOp (by kernel_rfl) fun kv x hlo hhi hI K hk => ?_
      clear hlo hhi
      have HI := Lib.hid hI
      clear hI
      go_wp2_with fail
      exact hk _ _ rfl HI.out
    rintro _ rfl
    simp only [Act.put, List.setIfInBounds_toArray, List.set_cons_succ, List.set_cons_zero]
    refine ⟨?_, ?_⟩
    focus
      refine phOp (by kernel_rfl) fun kv x hlo hhi hI K hk => ?_
      have HHE := Lib.hid (hI.1.fill2 hI.2.2 (P := P2) (by omega) (by omega) gn (Nat.le_refl _)).1
      have HI := Lib.hid hI
      clear hI hlo hhi
      go_wp2_with fail
      refine HHE.out.mono ?_
      rintro e x' ⟨rfl, hx'⟩
      exact hk _ _ rfl (hx'.symm ▸ HI.out)
    rintro _ rfl
    simp only [Act.put, List.setIfInBounds_toArray, List.set_cons_succ, List.set_cons_zero]
    refine ⟨?_, ?_⟩
    focus
      refine phOp (by kernel_rfl) fun kv x hlo hhi hI K hk => ?_
      clear hlo hhi
      have HI := Lib.hid hI
      clear hI
      go_wp2_with fail
      exact hk _ _ rfl HI.out
    rintro _ rfl
    simp only [Act.put, List.setIfInBounds_toArray, List.set_cons_succ, List.set_cons_zero]
    refine ⟨?_, ?_⟩
    focus
      refine phOp (by kernel_rfl) fun kv x hlo hhi hI K hk => ?_
      clear hlo hhi
      have HI := Lib.hid hI
      clear hI
      go_wp2_with fail
      exact hk _ _ rfl HI.out
    rintro _ rfl
    simp only [Act.put, List.setIfInBounds_toArray, List.set_cons_succ, List.set_cons_zero]
    refine ⟨?_, ?_⟩
    focus
      refine phKey (by kernel_rfl) fun y hI K hk => ?_
      obtain ⟨_, ⟨u1, hu1⟩, fu1, hsA, hfA, hcA⟩ := hI.1.fill2 hI.2.2 (P := P2) (by omega) (by omega) gn (Nat.le_refl _)
      have HNX := Lib.hid (And.intro hsA (And.intro (hI.2.1.trans hfA) hcA))
      clear hI hsA hfA hcA
      go_wp2_with fail
      exact hk undef _ trivial HNX.out
    rintro _ -
    simp only [Act.put, List.setIfInBounds_toArray, List.set_cons_succ, List.set_cons_zero]
    refine ⟨?_, ?_⟩
    focus
      refine phOp (by kernel_rfl) fun kv x hlo hhi hI K hk => ?_
      clear hlo hhi
      have HI := Lib.hid hI
      clear hI
      go_wp2_with fail
      exact hk _ _ rfl HI.out
    rintro _ rfl
    simp only [Act.put, List.setIfInBounds_toArray, List.set_cons_succ, List.set_cons_zero]
    refine ⟨?_, ?_⟩
    focus
      refine phOp (by kernel_rfl) fun kv x hlo hhi hI K hk => ?_
      clear hlo hhi
      have HI := Lib.hid hI
      clear hI
      go_wp2_with fail
      exact hk _ _ rfl HI.out
    rintro _ rfl
    simp only [Act.put, List.setIfInBounds_toArray, List.set_cons_succ, List.set_cons_zero]
    refine ⟨?_, ?_⟩
    focus
      refine phKey (by kernel_rfl) fun y hI K hk => ?_
      obtain ⟨_, ⟨u1, hu1⟩, fu1, hsA, hfA, hcA⟩ := hI.1.fill2 hI.2.2 (P := P4) (by omega) (by omega) gn (Nat.le_refl _)
      have HNX := Lib.hid (And.intro hsA (And.intro (hI.2.1.trans hfA) hcA))
      clear hI hsA hfA hcA
      go_wp2_with fail
      exact hk undef _ trivial HNX.out
    rintro _ -
    simp only [Act.put, List.setIfInBounds_toArray, List.set_cons_succ, List.set_cons_zero]
    intro x hx
    have HFIN := Lib.hid (hx.1.done (sz := 8 * ((flat t0).length + (flat t1).length) - 1) (by omega))
    clear hx
    go_wp2_with fail
    go_returns
    exact HFIN.out
end Go.Proofs.YtpogngdddendiaaDoor

/- The walk over while: a place is filled in with what a call answers that may have laid the row anew. Bounds on the lengths. -/
set_option linter.unusedVariables false
set_option linter.unusedSimpArgs false
namespace Go.Proofs.YtpogngdddendiaaDoor
open Go.RowKit

/-- What stands while the last place is filled in: ahead of the call, behind it, at the end. -/
def WhI (base g : Nat) (X : List Ins) (now0 high0 H : Nat) (w0 : World) (A : Option Addr) (ls : List (List Nd)) (W0 : World) (G now lo n ga nn c : Nat) : List Value → World → Prop
  | [], x => St base g X now0 high0 H w0 A ls x now lo n ∧ FrW base W0 x ∧ x.cell? ⟨g, 0, none⟩ = some (.slice (some ⟨ga, 0, none⟩) nn c) ∧ x.heap.size = W0.heap.size
  | [_], x => lo ≤ nn ∧ St base g X now0 high0 H w0 A ls x now (nn + 1) (n + 1) ∧ FrW base W0 x ∧ ((nn < c ∧ x.cell? ⟨g, 0, none⟩ = some (.slice (some ⟨ga, 0, none⟩) (nn + 1) c)) ∨ (c ≤ nn ∧ ∃ c', x.cell? ⟨g, 0, none⟩ = some (.slice (some ⟨G, 0, none⟩) (nn + 1) c') ∧ base ≤ ga ∧ ga < G ∧ ∃ xs, x.ownsRow base 36 4 (.slice (some ⟨ga, 0, none⟩) nn c) nn xs))
  | _, x => ∃ lo, St base g X now0 high0 H w0 A ls x now lo (n + 1)
def whT (ga G nn c : Nat) : PT := .op (fun v => v = .slice (some ⟨ga, 0, none⟩) nn c ∨ (nn < c ∧ v = .slice (some ⟨ga, 0, none⟩) (nn + 1) c) ∨ (c ≤ nn ∧ ∃ c', v = .slice (some ⟨G, 0, none⟩) (nn + 1) c')) ⟨_, .inl rfl⟩
/-- The store, wherever it goes. -/
theorem whStore {base g : Nat} {X : List Ins} {now0 high0 H : Nat} {w0 : World} {A : Option Addr} {ls : List (List Nd)} {W0 : World} {G now lo n ga nn c P : Nat} {v1 : Value} {y : World} (hX : X.length ≤ P) (hP : P < lo) (h : WhI base g X now0 high0 H w0 A ls W0 G now lo n ga nn c [v1] y) {b : Nat} (hb : b = ga ∨ (c ≤ nn ∧ b = G)) :
    (∃ u, y.cell? ⟨b, P * 4 + 1, none⟩ = some u) ∧ y.frozen? ⟨b, P * 4 + 1, none⟩ = false ∧ ∃ lo, St base g X now0 high0 H w0 A ls (y.setCell ⟨b, P * 4 + 1, none⟩ (.int .i64 nn)) now lo (n + 1) := by
  obtain ⟨hlo, hs, hf, hd⟩ := h
  rcases hd with ⟨hr, hc⟩ | ⟨hr, c', hc, hbg, hlt, xs, ho⟩
  · rcases hb with rfl | ⟨hr', _⟩
    · obtain ⟨_, h1, h2, h3, _⟩ := hs.fill2 hc (P := P) hX (by omega) nn (by omega)
      exact ⟨h1, h2, _, h3⟩
    · omega
  · rcases hb with rfl | ⟨_, rfl⟩
    · obtain ⟨h1, h2, h3, _⟩ := hs.stale hc (by omega) ho (P := P) (by omega) (.int .i64 nn)
      exact ⟨h1, h2, _, h3⟩
    · obtain ⟨_, h1, h2, h3, _⟩ := hs.fill2 hc (P := P) hX (by omega) nn (by omega)
      exact ⟨h1, h2, _, h3⟩
def whP (ga G nn c off : Nat) : PT := .op (fun v => v = .pointer (some ⟨ga, off, none⟩) ∨ (c ≤ nn ∧ v = .pointer (some ⟨G, off, none⟩))) ⟨_, .inl rfl⟩
set_option maxRecDepth 100000 in
set_option maxHeartbeats 4000000 in
theorem while_any (t0 t1 : Tr) (HT0 : DoOk t0) (HT1 : DoOk t1) (base g : Nat) (X : List Ins) (now high H : Nat) (A : Option Addr) (c m : Nat) (w : World)
    (h : WrI w base g X now high) (hk : KdS base w A [flat t0, flat t1]) (hm : m = 2) (hbw : base ≤ w.heap.size) (hH0 : heightT t0 ≤ H) (hH1 : heightT t1 ≤ H)
    (hX : X.length + 8 * ((flat t0).length + (flat t1).length) + 8 ≤ 30000000) (hnow : now + (flat t0).length + (flat t1).length ≤ 30000000) (hhi : high ≤ 30000000) (hH9 : now + H ≤ 30000000) :
    Calls Tryd.prog 66 #[.pointer (some ⟨g, 0, none⟩), .slice A m c] w (Wrote base g X now high now H (8 * ((flat t0).length + (flat t1).length)) w) := by
  subst hm
  obtain ⟨kb, ko, _, rfl, -⟩ := hk.at_ (k := 0) (by simp)
  have HS := Lib.hid (St.start (H := H) h hk hbw ⟨hhi, hH9⟩)
  have HF := Lib.hid (FrW.refl base w)
  have p0 := flat_pos t0
  have p1 := flat_pos t1
  clear h hk
  go_enter Tryd.func66, Tryd.ntmps66
  have HCC := Lib.hid (HS.out.op_ 17 0 1 [] (fun m _ => by simp [okI, placeA, placeB, countA]) (by omega))
  go_wp2_with fail
  refine HCC.out.mono ?_
  rintro e W' ⟨P1, rfl, hX1, hL1, hP1, hs', hf'⟩
  replace HS := Lib.hid hs'
  replace HF := Lib.hid (HF.out.trans hf')
  clear hs' hf' HCC
  have HCC := Lib.hid (HS.out.op_ 14 0 0 [] (fun m _ => by simp [okI, placeA, placeB, countA]) (by omega))
  go_wp2_with fail
  refine HCC.out.mono ?_
  rintro e W' ⟨P2, rfl, hX2, hL2, hP2, hs', hf'⟩
  replace HS := Lib.hid hs'
  replace HF := Lib.hid (HF.out.trans hf')
  clear hs' hf' HCC
  obtain ⟨Av, nv, cv, hkc, hcc⟩ := (HS.out.do_ (k := 0) HT0 (by simp) rfl (by omega) (by omega) (by omega))
  have HCC := Lib.hid hcc
  clear hcc
  first | (simp only [Nat.add_zero] at hkc) | skip
  go_wp2_with fail
  refine HCC.out.mono ?_
  rintro e W' ⟨rfl, hs', hf'⟩
  replace HS := Lib.hid hs'
  replace HF := Lib.hid (HF.out.trans hf')
  clear hs' hf' HCC hkc
  have HCC := Lib.hid (HS.out.op_ 19 0 0 [] (fun m _ => by simp [okI, placeA, placeB, countA]; omega) (by omega))
  go_wp2_with fail
  refine HCC.out.mono ?_
  rintro e W' ⟨P3, rfl, hX3, hL3, hP3, hs', hf'⟩
  replace HS := Lib.hid hs'
  replace HF := Lib.hid (HF.out.trans hf')
  clear hs' hf' HCC
  obtain ⟨Av, nv, cv, hkc, hcc⟩ := (HS.out.do_ (k := 1) HT1 (by simp) rfl (by omega) (by omega) (by omega))
  have HCC := Lib.hid hcc
  clear hcc
  first | (simp only [Nat.add_zero] at hkc) | skip
  go_wp2_with fail
  refine HCC.out.mono ?_
  rintro e W' ⟨rfl, hs', hf'⟩
  replace HS := Lib.hid hs'
  replace HF := Lib.hid (HF.out.trans hf')
  clear hs' hf' HCC hkc
  have HCC := Lib.hid (HS.out.op_ 17 0 2 [] (fun m _ => by simp [okI, placeA, placeB, countA]) (by omega))
  go_wp2_with fail
  refine HCC.out.mono ?_
  rintro e W' ⟨P4, rfl, hX4, hL4, hP4, hs', hf'⟩
  replace HS := Lib.hid hs'
  replace HF := Lib.hid (HF.out.trans hf')
  clear hs' hf' HCC
  have HCC := Lib.hid (HS.out.op_ 18 P2 0 [] (fun m hm => by simp [okI, placeA, placeB, countA]; omega) (by omega))
  go_wp2_with fail
  refine HCC.out.mono ?_
  rintro e W' ⟨P5, rfl, hX5, hL5, hP5, hs', hf'⟩
  replace HS := Lib.hid hs'
  replace HF := Lib.hid (HF.out.trans hf')
  clear hs' hf' HCC
  obtain ⟨n5, hn5⟩ : ∃ n5, n5 = 0 + 1 + 1 + (8 * (flat t0).length - 3) + 1 + (8 * (flat t1).length - 3) + 1 + 1 := ⟨_, rfl⟩
  rw [← hn5] at HS
  obtain ⟨ga, gn, gc, hc0, hgn, hgn8⟩ := HS.out.cell0 (P := P3) (by omega) (by omega) (by omega)
  obtain ⟨G, hG⟩ : ∃ G, G = W'.heap.size + 1 := ⟨_, rfl⟩
  have HGG := Lib.hid hG
  clear hG
  have HI0 := Lib.hid (show WhI base g X now high H w (some ⟨kb, ko, none⟩) [flat t0, flat t1] W' G now (P5 + 1) n5 ga gn gc [] { W' with drawn := W'.drawn + 1 } from ⟨HS.out.below (Below.refl _ _).drew, FrW.of (Below.refl _ _).drew HS.out.bw, hc0, rfl⟩)
  clear HS hc0
  go_upto_region 7 with (fail)
  apply wp_region_ph [9, 12] (WhI base g X now high H w (some ⟨kb, ko, none⟩) [flat t0, flat t1] W' G now (P5 + 1) n5 ga gn gc) [opE _, opE _, opE _, opE _, whT ga G gn gc, opE _, opE _, opE _, opE _, keyE (.int .i64 gn), whP ga G gn gc (P3 * 4), whP ga G gn gc (P3 * 4 + 1), keyAny] (by kernel_rfl) (by kernel_rfl) (by kernel_rfl) rfl rfl
  focus
    exact HI0.out
  focus
    refine ⟨?_, ?_⟩
    focus
      refine phOp (by kernel_rfl) fun kv x hlo hhi hI K hk => ?_
      clear hlo hhi
      have HI := Lib.hid hI
      clear hI
      go_wp2_with fail
      exact hk _ _ rfl HI.out
    rintro _ rfl
    simp only [Act.put, List.setIfInBounds_toArray, List.set_cons_succ, List.set_cons_zero]
    refine ⟨?_, ?_⟩
    focus
      refine phOp (by kernel_rfl) fun kv x hlo hhi hI K hk => ?_
      clear hlo hhi
      have HI := Lib.hid hI
      clear hI
      go_wp2_with fail
      exact hk _ _ rfl HI.out
    rintro _ rfl
    simp only [Act.put, List.setIfInBounds_toArray, List.set_cons_succ, List.set_cons_zero]
    refine ⟨?_, ?_⟩
    focus
      refine phOp (by kernel_rfl) fun kv x hlo hhi hI K hk => ?_
      clear hlo hhi
      have HI := Lib.hid hI
      clear hI
      go_wp2_with fail
      exact hk _ _ rfl HI.out
    rintro _ rfl
    simp only [Act.put, List.setIfInBounds_toArray, List.set_cons_succ, List.set_cons_zero]
    refine ⟨?_, ?_⟩
    focus
      refine phOp (by kernel_rfl) fun kv x hlo hhi hI K hk => ?_
      clear hlo hhi
      have HI := Lib.hid hI
      clear hI
      go_wp2_with fail
      exact hk _ _ rfl HI.out
    rintro _ rfl
    simp only [Act.put, List.setIfInBounds_toArray, List.set_cons_succ, List.set_cons_zero]
    refine ⟨?_, ?_⟩
    focus
      refine phOp (by kernel_rfl) fun kv x hlo hhi hI K hk => ?_
      have hl1 : kv.length ≤ 1 := phHi_le hhi (by kernel_rfl)
      clear hlo hhi
      match kv, hl1, hI with
      | [], _, hI =>
        have l0 := hI.2.2.1
        have HI := Lib.hid hI
        clear hI
        go_wp2_with fail
        exact hk _ _ (.inl rfl) HI.out
      | [v1], _, hI =>
        have HI := Lib.hid hI
        rcases hI.2.2.2 with ⟨hr, l0⟩ | ⟨hr, c', l0, _⟩
        · clear hI
          go_wp2_with fail
          exact hk _ _ (.inr (.inl ⟨hr, rfl⟩)) HI.out
        · clear hI
          go_wp2_with fail
          exact hk _ _ (.inr (.inr ⟨hr, c', rfl⟩)) HI.out
    rintro _ (rfl | ⟨hr, rfl⟩ | ⟨hr, c', rfl⟩)
    all_goals
      simp only [Act.put, List.setIfInBounds_toArray, List.set_cons_succ, List.set_cons_zero]
      refine ⟨?_, ?_⟩
      focus
        refine phOp (by kernel_rfl) fun kv x hlo hhi hI K hk => ?_
        clear hlo hhi
        have HI := Lib.hid hI
        clear hI
        go_wp2_with fail
        exact hk _ _ rfl HI.out
      rintro _ rfl
      simp only [Act.put, List.setIfInBounds_toArray, List.set_cons_succ, List.set_cons_zero]
      refine ⟨?_, ?_⟩
      focus
        refine phOp (by kernel_rfl) fun kv x hlo hhi hI K hk => ?_
        clear hlo hhi
        have HI := Lib.hid hI
        clear hI
        go_wp2_with fail
        exact hk _ _ rfl HI.out
      rintro _ rfl
      simp only [Act.put, List.setIfInBounds_toArray, List.set_cons_succ, List.set_cons_zero]
      refine ⟨?_, ?_⟩
      focus
        refine phOp (by kernel_rfl) fun kv x hlo hhi hI K hk => ?_
        clear hlo hhi
        have HI := Lib.hid hI
        clear hI
        go_wp2_with fail
        exact hk _ _ rfl HI.out
      rintro _ rfl
      simp only [Act.put, List.setIfInBounds_toArray, List.set_cons_succ, List.set_cons_zero]
      refine ⟨?_, ?_⟩
      focus
        refine phOp (by kernel_rfl) fun kv x hlo hhi hI K hk => ?_
        clear hlo hhi
        have HI := Lib.hid hI
        clear hI
        go_wp2_with fail
        exact hk _ _ rfl HI.out
      rintro _ rfl
      simp only [Act.put, List.setIfInBounds_toArray, List.set_cons_succ, List.set_cons_zero]
      refine ⟨?_, ?_⟩
      focus
        refine phKey (by kernel_rfl) fun y hI K hk => ?_
        have HCC := Lib.hid (hI.1.op2 hI.2.2.1 17 0 3 [] (fun m _ => by simp [okI, placeA, placeB, countA]) (by omega))
        have HI := Lib.hid hI
        clear hI
        go_wp2_with fail
        refine HCC.out.mono ?_
        rintro e W2 ⟨rfl, hlo, hs, hf, hd⟩
        refine hk _ _ rfl ⟨hlo, hs, HI.out.2.1.trans hf, ?_⟩
        rw [HI.out.2.2.2, ← HGG.out] at hd
        rcases hd with hd | ⟨h1, c2, h2, h3, h4, h5⟩
        · exact .inl hd
        · exact .inr ⟨h1, c2, h2, h3, (by have := HGG.out; omega), h5⟩
      rintro _ rfl
      simp only [Act.put, List.setIfInBounds_toArray, List.set_cons_succ, List.set_cons_zero]
      refine ⟨?_, ?_⟩
      focus
        refine phOp (by kernel_rfl) fun kv x hlo hhi hI K hk => ?_
        clear hlo hhi
        have HI := Lib.hid hI
        clear hI
        go_wp2_with fail
        first | exact hk _ _ (.inl rfl) HI.out | exact hk _ _ (.inr ⟨hr, rfl⟩) HI.out
      rintro _ (rfl | ⟨hr2, rfl⟩)
      all_goals first | (exfalso; omega) | skip
      all_goals
        simp only [Act.put, List.setIfInBounds_toArray, List.set_cons_succ, List.set_cons_zero]
        refine ⟨?_, ?_⟩
        focus
          refine phOp (by kernel_rfl) fun kv x hlo hhi hI K hk => ?_
          clear hlo hhi
          have HI := Lib.hid hI
          clear hI
          go_wp2_with fail
          first | exact hk _ _ (.inl rfl) HI.out | exact hk _ _ (.inr ⟨hr2, rfl⟩) HI.out
        rintro _ (rfl | ⟨hr3, rfl⟩)
        · simp only [Act.put, List.setIfInBounds_toArray, List.set_cons_succ, List.set_cons_zero]
          refine ⟨?_, ?_⟩
          focus
            refine phKey (by kernel_rfl) fun y hI K hk => ?_
            obtain ⟨⟨u1, hu1⟩, fu1, hnx⟩ := whStore (P := P3) (by omega) (by omega) hI (b := ga) (.inl rfl)
            have HNX := Lib.hid hnx
            clear hI hnx
            go_wp2_with fail
            exact hk undef _ trivial HNX.out
          rintro _ -
          simp only [Act.put, List.setIfInBounds_toArray, List.set_cons_succ, List.set_cons_zero]
          intro x hx
          obtain ⟨lo, hx⟩ := hx
          have HFIN := Lib.hid (hx.done (sz := 8 * ((flat t0).length + (flat t1).length)) (by omega))
          clear hx
          go_wp2_with fail
          go_returns
          exact HFIN.out
        · first | (exfalso; omega) | skip
          all_goals
            simp only [Act.put, List.setIfInBounds_toArray, List.set_cons_succ, List.set_cons_zero]
            refine ⟨?_, ?_⟩
            focus
              refine phKey (by kernel_rfl) fun y hI K hk => ?_
              obtain ⟨⟨u1, hu1⟩, fu1, hnx⟩ := whStore (P := P3) (by omega) (by omega) hI (b := G) (.inr ⟨hr3, rfl⟩)
              have HNX := Lib.hid hnx
              clear hI hnx
              go_wp2_with fail
              exact hk undef _ trivial HNX.out
            rintro _ -
            simp only [Act.put, List.setIfInBounds_toArray, List.set_cons_succ, List.set_cons_zero]
            intro x hx
            obtain ⟨lo, hx⟩ := hx
            have HFIN := Lib.hid (hx.done (sz := 8 * ((flat t0).length + (flat t1).length)) (by omega))
            clear hx
            go_wp2_with fail
            go_returns
            exact HFIN.out
end Go.Proofs.YtpogngdddendiaaDoor

/- The walk over choose: a Case is written. Bounds on the lengths. -/
set_option linter.unusedVariables false
set_option linter.unusedSimpArgs false
namespace Go.Proofs.YtpogngdddendiaaDoor
open Go.RowKit

theorem infoIntG : (Tryd.prog.info? 3).map (fun i => (i.zero, i.size, i.bytes)) = some (some (.int .i64 0), 1, 8) := by kernel_rfl
def intcG (n : Nat) : List Value := [.int .i64 n]
theorem flat_intG (L : List Nat) : L.flatMap intcG = L.map fun n : Nat => Value.int .i64 (n : Int) := by
  induction L with
  | nil => rfl
  | cons n L ih => rw [List.flatMap_cons, ih]; rfl
/-- The places of the ends so far. -/
def EndsI (w0 w : World) (v : Value) (X lo : Nat) (j : Nat) : Prop := ∃ (A : Option Addr) (c : Nat) (L : List Nat), v = .slice A j c ∧ w.ownsRow w0.heap.size 3 1 (.slice A j c) j (L.flatMap intcG) ∧ L.length = j ∧ ∀ P ∈ L, X ≤ P ∧ P < lo
theorem EndsI.frw {w0 w w' : World} {v : Value} {X lo j base : Nat} (h : EndsI w0 w v X lo j) (hf : FrW base w w') : EndsI w0 w' v X lo j :=
  let ⟨A, c, L, h1, h2, h3⟩ := h
  ⟨A, c, L, h1, own_frw h2 hf (by decide), h3⟩
theorem EndsI.mono {w0 w : World} {v : Value} {X lo lo' j : Nat} (h : EndsI w0 w v X lo j) (hl : lo ≤ lo') : EndsI w0 w v X lo' j :=
  let ⟨A, c, L, h1, h2, h3, h4⟩ := h
  ⟨A, c, L, h1, h2, h3, fun P hP => ⟨(h4 P hP).1, Nat.lt_of_lt_of_le (h4 P hP).2 hl⟩⟩
theorem EndsI.at_ {w0 w : World} {A : Option Addr} {c : Nat} {X lo j k : Nat} (h : EndsI w0 w (.slice A j c) X lo j) (hk : k < j) : ∃ g P, A = some ⟨g, 0, none⟩ ∧ w.cell? ⟨g, k, none⟩ = some (.int .i64 (P : Nat)) ∧ X ≤ P ∧ P < lo := by
  obtain ⟨A', c', L, he, ho, hl, hp⟩ := h
  injection he with he1 _ he3
  subst he1 he3
  obtain ⟨g, rfl⟩ : ∃ g, A = some ⟨g, 0, none⟩ := by
    rcases ho.2 with ⟨he, h0⟩ | ⟨g', cap, cur, he, _⟩
    · omega
    · injection he with he1 _ _
      exact ⟨g', he1⟩
  have hc := ho.cellAt k (by omega)
  rw [flat_intG, List.getElem?_map, List.getElem?_eq_getElem (by omega)] at hc
  exact ⟨g, L[k], rfl, hc, hp _ (List.getElem_mem _)⟩
theorem St.weak {base g : Nat} {X : List Ins} {now0 high0 H : Nat} {w0 W : World} {A : Option Addr} {ls : List (List Nd)} {now lo n lo' n' : Nat} (h : St base g X now0 high0 H w0 A ls W now lo n) (hl : lo' ≤ lo) (hn : n ≤ n') : St base g X now0 high0 H w0 A ls W now lo' n' :=
  let ⟨Y, hi, h⟩ := h
  ⟨Y, hi, h.wr, h.kd, Nat.le_trans hl h.lo, Nat.le_trans h.n hn, h.cap⟩
theorem St.bump {base g : Nat} {X : List Ins} {now0 high0 H : Nat} {w0 W : World} {A : Option Addr} {ls : List (List Nd)} {now lo n : Nat} (h : St base g X now0 high0 H w0 A ls W now lo n) (m : Nat) (hm : m ≤ now ∨ m ≤ high0) :
    W.cell? ⟨g, 1, none⟩ = some (.int .i64 now) ∧ W.frozen? ⟨g, 1, none⟩ = false ∧ St base g X now0 high0 H w0 A ls (W.setCell ⟨g, 1, none⟩ (.int .i64 m)) m lo n ∧ FrW base W (W.setCell ⟨g, 1, none⟩ (.int .i64 m)) := by
  obtain ⟨Y, hi, h⟩ := h
  obtain ⟨h1, h2, h3⟩ := h.wr.nowset
  have hm := hm.imp id fun h' => Nat.le_trans h' h.wr.lo
  exact ⟨h1, h2, ⟨Y, hi, (h3 m hm).1, h.kd.frw (h3 m hm).2, h.lo, h.n, h.cap⟩, (h3 m hm).2⟩
theorem St.raise {base g : Nat} {X : List Ins} {now0 high0 H : Nat} {w0 W : World} {A : Option Addr} {ls : List (List Nd)} {now lo n : Nat} (h : St base g X now0 high0 H w0 A ls W now lo n) :
    ∃ h2, high0 ≤ h2 ∧ now ≤ h2 ∧ h2 ≤ max high0 (now0 + H) ∧ St base g X now0 h2 H w0 A ls W now lo n := by
  obtain ⟨Y, hi, h⟩ := h
  have e1 := h.wr.lo
  have e2 := h.wr.hi
  have e3 := h.wr.wr.1.2
  have e4 := h.cap
  exact ⟨max high0 now, Nat.le_max_left _ _, Nat.le_max_right _ _, by omega, Y, hi, ⟨h.wr.wr, by omega, by omega, h.wr.ok, h.wr.fr, h.wr.bw⟩, h.kd, h.lo, h.n, by omega⟩
theorem Wrote.lower {base g : Nat} {X : List Ins} {now high h2 now' H sz : Nat} {w w' : World} {e : Ending} (h : Wrote base g X now h2 now' H sz w e w') (h1 : high ≤ h2) (h3 : h2 ≤ max high (now + H)) : Wrote base g X now high now' H sz w e w' :=
  let ⟨Y, hi, he, hw, a, b, c, d, f⟩ := h
  ⟨Y, hi, he, hw, Nat.le_trans h1 a, by omega, c, d, f⟩
theorem FrW.of2 {base : Nat} {w0 w w' : World} (h : FrW base w0 w) (hb : Below w0.heap.size w w') (hbw : base ≤ w0.heap.size) : FrW base w0 w' :=
  ⟨fun k cs T fr hk hT => (hb.block k (Array.getElem?_eq_some_iff.1 hk).1).trans (h.others k cs T fr hk hT), h.below.trans (hb.mono hbw)⟩
theorem St.fr {base g : Nat} {X : List Ins} {now0 high0 H : Nat} {w0 W : World} {A : Option Addr} {ls : List (List Nd)} {now lo n : Nat} (h : St base g X now0 high0 H w0 A ls W now lo n) : FrW base w0 W := let ⟨_, _, h⟩ := h; h.wr.fr
/-- A row of integers of the call's own has grown. -/
theorem St.grow {base g : Nat} {X : List Ins} {now0 high0 H : Nat} {w0 W w2 : World} {A : Option Addr} {ls : List (List Nd)} {now lo n : Nat} (h : St base g X now0 high0 H w0 A ls W now lo n) (hk : KdS base w0 A ls) (hb : Below w0.heap.size W w2) (ho : Others [3] W w2) (hbw : base ≤ w0.heap.size) : St base g X now0 high0 H w0 A ls w2 now lo n := by
  obtain ⟨Y, hi, h⟩ := h
  have hf := h.wr.fr.of2 hb hbw
  obtain ⟨h0, v, h1, A', c', e1, h2⟩ := h.wr.wr
  exact ⟨Y, hi, ⟨⟨h0, v, h1.others ho (by decide), A', c', e1, own_others h2 ho (by decide)⟩, h.wr.lo, h.wr.hi, h.wr.ok, hf, Nat.le_trans hbw hf.below.size⟩, hk.frw hf, h.lo, h.n, h.cap⟩
set_option maxRecDepth 100000 in
set_option maxHeartbeats 4000000 in
theorem choose_any (ks : List Tr) (p : Nat) (hodd : ks.length = 2 * p + 1) (HW : ∀ k (h : k < ks.length), (k = 0 ∨ k % 2 = 1) → WordOk ks[k]) (HD : ∀ k (h : k < ks.length), k ≠ 0 → k % 2 = 0 → DoOk ks[k]) (base g : Nat) (X : List Ins) (now high H : Nat) (A : Option Addr) (c m : Nat) (w : World)
    (h : WrI w base g X now high) (hk : KdS base w A (ks.map flat)) (hm : m = ks.length) (hbw : base ≤ w.heap.size) (hH : ∀ i (h : i < ks.length), heightT ks[i] + i % 2 ≤ H)
    (hX : X.length + 8 * (flatAll ks).length + 4 ≤ 30000000) (hnow : now + (flatAll ks).length + 1 ≤ 30000000) (hhi : high ≤ 30000000) (hH9 : now + H ≤ 30000000) :
    Calls Tryd.prog 96 #[.pointer (some ⟨g, 0, none⟩), .slice A m c] w (Wrote base g X now high now H (8 * (flatAll ks).length + 2) w) := by
  obtain ⟨i0, hi, hz0, hz1, hz2⟩ := info_parts infoIntG
  obtain ⟨kb, ko, _, rfl, -⟩ := hk.at_ (k := 0) (by simp; omega)
  have HS := Lib.hid (St.start (H := H) h hk hbw ⟨hhi, hH9⟩)
  have HF := Lib.hid (FrW.refl base w)
  have HWO := Lib.hid HW
  have HKW := Lib.hid hk
  have HDO := Lib.hid HD
  have HHH := Lib.hid hH
  have HM := Lib.hid hm
  have HOD := Lib.hid hodd
  obtain ⟨fl, hfl⟩ : ∃ fl, fl = (flatAll ks).length := ⟨_, rfl⟩
  have HFL := Lib.hid hfl
  have HBW := Lib.hid hbw
  have h0k : 0 < ks.length := by omega
  have hs0 : sumT ks 1 = sumT ks 0 + (flat ks[0]).length := sumT_succ ks 0 h0k
  have hsl0 := sumT_le ks 1
  have hH0 := hH 0 h0k
  have hm3 : m = 2 * p + 1 := by omega
  have hp8 : p ≤ 30000000 := by have := len_flatAll ks; omega
  rw [← hfl] at hX hnow hsl0 ⊢
  have hW0 := HW 0 h0k (.inl rfl)
  obtain ⟨t0, ht0⟩ : ∃ t, t = ks[0] := ⟨_, rfl⟩
  have HL0 := Lib.hid (show ∀ h : 0 < (ks.map flat).length, (ks.map flat)[0] = flat t0 from fun h => by rw [ht0]; simp)
  have HKL := Lib.hid (show 0 < (ks.map flat).length from by simpa using h0k)
  rw [← ht0] at hs0 hW0 hH0
  have p0 := flat_pos t0
  have hsz : sumT ks 0 = 0 := by unfold sumT; rw [List.take_zero, flatAll_nil]; rfl
  clear h hk hm hH HW HD hodd hfl ht0 h0k
  go_enter Tryd.func96, Tryd.ntmps96
  obtain ⟨Av, nv, cv, hkc, hcc⟩ := (HS.out.word_ (k := 0) hW0 HKL.out (HL0.out _) (by omega) (by omega) (by omega))
  have HCC := Lib.hid hcc
  clear hcc
  first | (simp only [Nat.add_zero] at hkc) | skip
  go_wp2_with fail
  refine HCC.out.mono ?_
  rintro e W' ⟨rfl, hs', hf'⟩
  replace HS := Lib.hid hs'
  replace HF := Lib.hid (HF.out.trans hf')
  clear hs' hf' HCC hkc
  have HCC := Lib.hid (HS.out.op_ 23 0 0 [] (fun m _ => by simp [okI, placeA, placeB, countA]) (by omega))
  go_wp2_with fail
  refine HCC.out.mono ?_
  rintro e W' ⟨P1, rfl, hX1, hL1, hP1, hs', hf'⟩
  replace HS := Lib.hid hs'
  replace HF := Lib.hid (HF.out.trans hf')
  clear hs' hf' HCC
  have HS1 := Lib.hid (HS.out.weak (lo' := X.length) (n' := 8 * sumT ks 1) (by omega) (by omega))
  clear HS
  go_wp2_with fail
  obtain ⟨hr, hr1, hr2, hr3, hsr⟩ := HS1.out.raise
  clear HS1
  have HS1 := Lib.hid hsr
  have HRR := Lib.hid (show high ≤ hr ∧ hr ≤ max high (now + H) from ⟨hr1, hr3⟩)
  clear hr1 hr3 hsr
  go_loopw [4, 5] (fun ev i wr => ∃ j : Nat, j ≤ p ∧ i = .int .i64 ((2 * j + 1 : Nat) : Int) ∧ (∃ lo, X.length ≤ lo ∧ Hid (St base g X now hr H w (some ⟨kb, ko, none⟩) (ks.map flat) wr (now + 1) lo (8 * sumT ks (2 * j + 1))) ∧ Hid (EndsI w wr ev X.length lo j)) ∧ (∃ A c, ev = .slice A j c)) (fun _ i _ => 2 * p + 1 - (intOf i).toNat)
  case atStart => exact ⟨0, Nat.zero_le _, rfl, ⟨X.length, Nat.le_refl _, HS1, Lib.hid ⟨none, 0, [], rfl, World.ownsRow_nil _ _ _ _, rfl, fun P h => (by cases h)⟩⟩, ⟨none, 0, rfl⟩⟩
  case round =>
    obtain ⟨j, hj, rfl, ⟨lo, hlo, HS, HE⟩, ⟨Ae, ce, rfl⟩⟩ := hrel
    clear HS1 HF
    have HF := Lib.hid (FrW.refl base wr)
    by_cases hlt : j < p
    · have hk1 : 2 * j + 1 < ks.length := by have := HOD.out; omega
      have hk2 : 2 * j + 2 < ks.length := by have := HOD.out; omega
      have hs1 : sumT ks (2 * j + 2) = sumT ks (2 * j + 1) + (flat ks[2 * j + 1]).length := sumT_succ ks (2 * j + 1) hk1
      have hs2 : sumT ks (2 * j + 3) = sumT ks (2 * j + 2) + (flat ks[2 * j + 2]).length := sumT_succ ks (2 * j + 2) hk2
      have hsl := sumT_le ks (2 * j + 3)
      rw [← HFL.out] at hsl
      have hH1 : heightT ks[2 * j + 1] + 1 ≤ H := by have := HHH.out (2 * j + 1) hk1; omega
      have hH2 : heightT ks[2 * j + 2] ≤ H := by have := HHH.out (2 * j + 2) hk2; omega
      have hW1 := HWO.out (2 * j + 1) hk1 (.inr (by omega))
      have hD2 := HDO.out (2 * j + 2) hk2 (by omega) (by omega)
      obtain ⟨t1, ht1⟩ : ∃ t, t = ks[2 * j + 1] := ⟨_, rfl⟩
      obtain ⟨t2, ht2⟩ : ∃ t, t = ks[2 * j + 2] := ⟨_, rfl⟩
      rw [← ht1] at hs1 hH1 hW1
      rw [← ht2] at hs2 hH2 hD2
      have HK1 := Lib.hid (show 2 * j + 1 < (ks.map flat).length from by simpa using hk1)
      have HK2 := Lib.hid (show 2 * j + 2 < (ks.map flat).length from by simpa using hk2)
      have HL1 := Lib.hid (show ∀ h : 2 * j + 1 < (ks.map flat).length, (ks.map flat)[2 * j + 1] = flat t1 from fun h => by rw [ht1]; simp)
      have HL2 := Lib.hid (show ∀ h : 2 * j + 2 < (ks.map flat).length, (ks.map flat)[2 * j + 2] = flat t2 from fun h => by rw [ht2]; simp)
      have p1 := flat_pos t1
      have p2 := flat_pos t2
      clear ht1 ht2 hk1 hk2 hs0 hsl0 hH0 hW0
      obtain ⟨Av, nv, cv, hkc, hcc⟩ := (HS.out.word_ (k := 2 * j + 1) hW1 HK1.out (HL1.out _) (by omega) (by omega) (by omega))
      have HCC := Lib.hid hcc
      clear hcc
      first | (simp only [Nat.add_zero] at hkc) | skip
      go_wp2_with fail
      refine HCC.out.mono ?_
      rintro e W' ⟨rfl, hs', hf'⟩
      replace HS := Lib.hid hs'
      replace HF := Lib.hid (HF.out.trans hf')
      clear hs' hf' HCC hkc
      have HCC := Lib.hid (HS.out.op_ 24 0 0 [] (fun m _ => by simp [okI, placeA, placeB, countA]; omega) (by omega))
      go_wp2_with fail
      refine HCC.out.mono ?_
      rintro e W' ⟨P1, rfl, hX1, hL1, hP1, hs', hf'⟩
      replace HS := Lib.hid hs'
      replace HF := Lib.hid (HF.out.trans hf')
      clear hs' hf' HCC
      have HCC := Lib.hid (HS.out.op_ 25 0 0 [] (fun m _ => by simp [okI, placeA, placeB, countA]) (by omega))
      go_wp2_with fail
      refine HCC.out.mono ?_
      rintro e W' ⟨P2, rfl, hX2, hL2, hP2, hs', hf'⟩
      replace HS := Lib.hid hs'
      replace HF := Lib.hid (HF.out.trans hf')
      clear hs' hf' HCC
      have HCC := Lib.hid (HS.out.push_ now (-2) (by omega) (by omega) (by omega))
      go_wp2_with fail
      refine HCC.out.mono ?_
      rintro e W' ⟨rfl, hs', hf'⟩
      replace HS := Lib.hid hs'
      replace HF := Lib.hid (HF.out.trans hf')
      clear hs' hf' HCC
      obtain ⟨Av, nv, cv, hkc, hcc⟩ := (HS.out.do_ (k := 2 * j + 2) hD2 HK2.out (HL2.out _) (by omega) (by omega) (by omega))
      have HCC := Lib.hid hcc
      clear hcc
      first | (simp only [Nat.add_zero] at hkc) | skip
      go_wp2_with fail
      refine HCC.out.mono ?_
      rintro e W' ⟨rfl, hs', hf'⟩
      replace HS := Lib.hid hs'
      replace HF := Lib.hid (HF.out.trans hf')
      clear hs' hf' HCC hkc
      have HCC := Lib.hid (HS.out.op_ 18 0 0 [] (fun m _ => by simp [okI, placeA, placeB, countA]; omega) (by omega))
      go_wp2_with fail
      refine HCC.out.mono ?_
      rintro e W2 ⟨P3, rfl, hX3, hL3, hP3, hs3, hf3⟩
      have HE3 := Lib.hid ((HE.out.frw HF.out).frw hf3)
      have HS3 := Lib.hid hs3
      clear hs3 hf3 HCC HS HE HF
      obtain ⟨_, _, L, he, hown, hLl, hLp⟩ := HE3.out
      injection he with he1 _ he3
      subst he1 he3
      have HLP := Lib.hid hLp
      have HLL := Lib.hid hLl
      have hwW : w.heap.size ≤ W2.heap.size := HS3.out.fr.below.size
      clear hLp hLl HE3
      go_upto_region 12 with (at_builtin; refine wpList_push rfl _ _ _ rfl Tryd.underlying45 hi hz0 hz1 hz2 rfl (by decide) hown rfl rfl rfl (by simp [Value.oneCell']) (by omega) (by decide) hwW ?_; intro A4 c4 w4 hown4 hb4 hoo4)
      have HS := Lib.hid (HS3.out.grow HKW.out hb4 hoo4 (HBW.out))
      have HE := Lib.hid (show EndsI w w4 (.slice A4 (j + 1) c4) X.length (P3 + 1) (j + 1) from ⟨A4, c4, L ++ [P3], rfl, by rw [List.flatMap_append]; simpa [intcG] using hown4, by rw [List.length_append, HLL.out]; rfl, fun P hP => by
        rcases List.mem_append.1 hP with hP | hP
        · have := HLP.out P hP
          exact ⟨this.1, by omega⟩
        · rw [List.mem_singleton.1 hP]
          exact ⟨hX3, Nat.lt_succ_self _⟩⟩)
      have HF := Lib.hid (FrW.refl base w4)
      clear hown hown4 hb4 hoo4 HS3 HLP HLL hwW
      obtain ⟨ga, gc, gn, gP, gn8, l0, hhere, hst⟩ := HS.out.fill (P := P1) (by omega) (by omega) (by omega)
      have HHE := Lib.hid hhere
      have HST := Lib.hid hst
      clear hhere hst
      go_upto_region 12 with (fail)
      refine wp_region_mid 12 _ rfl rfl (by kernel_rfl) (by kernel_rfl) (by kernel_rfl) ?_
      apply EqGo.run
      focus
        kernel_rfl
      focus
        intro x K hK
        go_wp2_with fail
        first | exact hK x (Below.refl _ _) | exact Below.refl _ _
      simp only [Act.put, List.setIfInBounds_toArray, List.set_cons_succ, List.set_cons_zero]
      apply EqGo.run
      focus
        kernel_rfl
      focus
        intro x K hK
        go_wp2_with fail
        first | exact hK x (Below.refl _ _) | exact Below.refl _ _
      simp only [Act.put, List.setIfInBounds_toArray, List.set_cons_succ, List.set_cons_zero]
      apply EqGo.run
      focus
        kernel_rfl
      focus
        intro x K hK
        go_wp2_with fail
        first | exact hK x (Below.refl _ _) | exact Below.refl _ _
      simp only [Act.put, List.setIfInBounds_toArray, List.set_cons_succ, List.set_cons_zero]
      apply EqGo.run
      focus
        kernel_rfl
      focus
        intro x K hK
        go_wp2_with fail
        first | exact hK x (Below.refl _ _) | exact Below.refl _ _
      simp only [Act.put, List.setIfInBounds_toArray, List.set_cons_succ, List.set_cons_zero]
      apply EqGo.run
      focus
        kernel_rfl
      focus
        intro x K hK
        go_wp2_with fail
        first | exact hK x (Below.refl _ _) | exact Below.refl _ _
      simp only [Act.put, List.setIfInBounds_toArray, List.set_cons_succ, List.set_cons_zero]
      apply EqGo.run
      focus
        kernel_rfl
      focus
        intro x K hK
        go_wp2_with fail
        first | exact hK x (Below.refl _ _) | exact Below.refl _ _
      simp only [Act.put, List.setIfInBounds_toArray, List.set_cons_succ, List.set_cons_zero]
      apply EqGo.run
      focus
        kernel_rfl
      focus
        intro x K hK
        go_wp2_with fail
        first | exact hK x (Below.refl _ _) | exact Below.refl _ _
      simp only [Act.put, List.setIfInBounds_toArray, List.set_cons_succ, List.set_cons_zero]
      apply EqGo.run
      focus
        kernel_rfl
      focus
        intro x K hK
        go_wp2_with fail
        first | exact hK x (Below.refl _ _) | exact Below.refl _ _
      simp only [Act.put, List.setIfInBounds_toArray, List.set_cons_succ, List.set_cons_zero]
      apply EqGo.run
      focus
        kernel_rfl
      focus
        intro x K hK
        go_wp2_with fail
        first | exact hK x (Below.refl _ _) | exact Below.refl _ _
      simp only [Act.put, List.setIfInBounds_toArray, List.set_cons_succ, List.set_cons_zero]
      apply EqGo.run
      focus
        kernel_rfl
      focus
        intro x K hK
        go_wp2_with fail
        refine (Hid.out HHE x.val x.below).mono ?_
        rintro e x' ⟨rfl, hb'⟩
        exact hK ⟨x', x.below.trans (hb'.mono x.below.size)⟩ hb'
      simp only [Act.put, List.setIfInBounds_toArray, List.set_cons_succ, List.set_cons_zero]
      apply EqGo.run
      focus
        kernel_rfl
      focus
        intro x K hK
        go_wp2_with fail
        first | exact hK x (Below.refl _ _) | exact Below.refl _ _
      simp only [Act.put, List.setIfInBounds_toArray, List.set_cons_succ, List.set_cons_zero]
      apply EqGo.run
      focus
        kernel_rfl
      focus
        intro x K hK
        go_wp2_with fail
        first | exact hK x (Below.refl _ _) | exact Below.refl _ _
      simp only [Act.put, List.setIfInBounds_toArray, List.set_cons_succ, List.set_cons_zero]
      intro z K hK
      obtain ⟨⟨u1, hu1⟩, fu1, ⟨u2, hu2⟩, fu2, hsA, hfA, hsB, hfB⟩ := HST.out z.val z.below
      replace HF := Lib.hid (HF.out.trans hfA)
      replace HS := Lib.hid hsA
      clear hsA hfA hsB hfB HST HHE l0
      go_wp2_with fail
      refine hK undef _ ?_
      clear hK K hu1 fu1 hu2 fu2 u1 u2
      intro z2
      replace HF := Lib.hid (HF.out.trans (FrW.of z2.below HS.out.bw))
      replace HS := Lib.hid (HS.out.below z2.below)
      generalize z2.val = W' at *
      clear z2 gP gn8
      obtain ⟨b1, b2, b3, b4⟩ := HS.out.bump (now + 1) (.inr (by omega))
      have HSF := Lib.hid (b3.weak (lo' := P3 + 1) (n' := 8 * sumT ks (2 * (j + 1) + 1)) (Nat.le_refl _) (by rw [show 2 * (j + 1) + 1 = 2 * j + 3 by omega]; omega))
      have HEF := Lib.hid ((HE.out.frw HF.out).frw b4)
      rw [show ((now + 1 : Nat) : Int) = (now : Int) + 1 by omega] at HSF HEF
      clear b3 b4 HS HE HF
      go_wp2_with fail
      go_roundw
      case rel => exact ⟨j + 1, by omega, by go_num, ⟨P3 + 1, by omega, HSF, HEF⟩, ⟨A4, c4, rfl⟩⟩
      case measure => simp [intOf]; omega
    · obtain rfl : j = p := by omega
      have hs9 : sumT ks (2 * j + 1) = fl := by
        unfold sumT
        rw [List.take_of_length_le (by have := HOD.out; omega), HFL.out]
      rw [hs9] at HS
      have HCC := Lib.hid (HS.out.op_ 25 0 0 [] (fun m _ => by simp [okI, placeA, placeB, countA]) (by omega))
      go_wp2_with fail
      refine HCC.out.mono ?_
      rintro e W' ⟨P1, rfl, hX1, hL1, hP1, hs', hf'⟩
      replace HS := Lib.hid hs'
      replace HF := Lib.hid (HF.out.trans hf')
      clear hs' hf' HCC
      have HCC := Lib.hid (HS.out.push_ now (-1) (by omega) (by omega) (by omega))
      go_wp2_with fail
      refine HCC.out.mono ?_
      rintro e W' ⟨rfl, hs', hf'⟩
      replace HS := Lib.hid hs'
      replace HF := Lib.hid (HF.out.trans hf')
      clear hs' hf' HCC
      have HCC := Lib.hid (HS.out.op_ 17 0 0 [] (fun m _ => by simp [okI, placeA, placeB, countA]) (by omega))
      go_wp2_with fail
      refine HCC.out.mono ?_
      rintro e W' ⟨P2, rfl, hX2, hL2, hP2, hs', hf'⟩
      replace HS := Lib.hid hs'
      replace HF := Lib.hid (HF.out.trans hf')
      clear hs' hf' HCC
      have HE2 := Lib.hid ((HE.out.frw HF.out).mono (lo' := P2 + 1) (by omega))
      clear HE HF hlt
      go_wp2_with fail
      go_loopw [85] (fun i wr => ∃ q : Nat, q ≤ j ∧ i = .int .i64 q ∧ Hid (St base g X now hr H w (some ⟨kb, ko, none⟩) (ks.map flat) wr now (P2 + 1) (8 * fl + 1 + 1)) ∧ Hid (EndsI w wr (.slice Ae j ce) X.length (P2 + 1) j)) (fun i _ => j - (intOf i).toNat)
      case atStart => exact ⟨0, Nat.zero_le _, rfl, HS, HE2⟩
      case round =>
        clear HS HE2
        obtain ⟨q, hq, rfl, HS, HE⟩ := hrel
        generalize wr = wq at *
        by_cases hlt : q < j
        · obtain ⟨ge, P, rfl, z0, hPX, hPl⟩ := HE.out.at_ hlt
          have HF := Lib.hid (FrW.refl base wq)
          go_upto_region 20 with (fail)
          clear z0
          obtain ⟨ga, gc, gn, gP, gn8, l0, hhere, hst⟩ := HS.out.fill (P := P) (by omega) (by omega) (by omega)
          have HHE := Lib.hid hhere
          have HST := Lib.hid hst
          clear hhere hst
          go_upto_region 20 with (fail)
          refine wp_region_mid 12 _ rfl rfl (by kernel_rfl) (by kernel_rfl) (by kernel_rfl) ?_
          apply EqGo.run
          focus
            kernel_rfl
          focus
            intro x K hK
            go_wp2_with fail
            first | exact hK x (Below.refl _ _) | exact Below.refl _ _
          simp only [Act.put, List.setIfInBounds_toArray, List.set_cons_succ, List.set_cons_zero]
          apply EqGo.run
          focus
            kernel_rfl
          focus
            intro x K hK
            go_wp2_with fail
            first | exact hK x (Below.refl _ _) | exact Below.refl _ _
          simp only [Act.put, List.setIfInBounds_toArray, List.set_cons_succ, List.set_cons_zero]
          apply EqGo.run
          focus
            kernel_rfl
          focus
            intro x K hK
            go_wp2_with fail
            first | exact hK x (Below.refl _ _) | exact Below.refl _ _
          simp only [Act.put, List.setIfInBounds_toArray, List.set_cons_succ, List.set_cons_zero]
          apply EqGo.run
          focus
            kernel_rfl
          focus
            intro x K hK
            go_wp2_with fail
            first | exact hK x (Below.refl _ _) | exact Below.refl _ _
          simp only [Act.put, List.setIfInBounds_toArray, List.set_cons_succ, List.set_cons_zero]
          apply EqGo.run
          focus
            kernel_rfl
          focus
            intro x K hK
            go_wp2_with fail
            first | exact hK x (Below.refl _ _) | exact Below.refl _ _
          simp only [Act.put, List.setIfInBounds_toArray, List.set_cons_succ, List.set_cons_zero]
          apply EqGo.run
          focus
            kernel_rfl
          focus
            intro x K hK
            go_wp2_with fail
            first | exact hK x (Below.refl _ _) | exact Below.refl _ _
          simp only [Act.put, List.setIfInBounds_toArray, List.set_cons_succ, List.set_cons_zero]
          apply EqGo.run
          focus
            kernel_rfl
          focus
            intro x K hK
            go_wp2_with fail
            first | exact hK x (Below.refl _ _) | exact Below.refl _ _
          simp only [Act.put, List.setIfInBounds_toArray, List.set_cons_succ, List.set_cons_zero]
          apply EqGo.run
          focus
            kernel_rfl
          focus
            intro x K hK
            go_wp2_with fail
            first | exact hK x (Below.refl _ _) | exact Below.refl _ _
          simp only [Act.put, List.setIfInBounds_toArray, List.set_cons_succ, List.set_cons_zero]
          apply EqGo.run
          focus
            kernel_rfl
          focus
            intro x K hK
            go_wp2_with fail
            first | exact hK x (Below.refl _ _) | exact Below.refl _ _
          simp only [Act.put, List.setIfInBounds_toArray, List.set_cons_succ, List.set_cons_zero]
          apply EqGo.run
          focus
            kernel_rfl
          focus
            intro x K hK
            go_wp2_with fail
            refine (Hid.out HHE x.val x.below).mono ?_
            rintro e x' ⟨rfl, hb'⟩
            exact hK ⟨x', x.below.trans (hb'.mono x.below.size)⟩ hb'
          simp only [Act.put, List.setIfInBounds_toArray, List.set_cons_succ, List.set_cons_zero]
          apply EqGo.run
          focus
            kernel_rfl
          focus
            intro x K hK
            go_wp2_with fail
            first | exact hK x (Below.refl _ _) | exact Below.refl _ _
          simp only [Act.put, List.setIfInBounds_toArray, List.set_cons_succ, List.set_cons_zero]
          apply EqGo.run
          focus
            kernel_rfl
          focus
            intro x K hK
            go_wp2_with fail
            first | exact hK x (Below.refl _ _) | exact Below.refl _ _
          simp only [Act.put, List.setIfInBounds_toArray, List.set_cons_succ, List.set_cons_zero]
          intro z K hK
          obtain ⟨⟨u1, hu1⟩, fu1, ⟨u2, hu2⟩, fu2, hsA, hfA, hsB, hfB⟩ := HST.out z.val z.below
          replace HF := Lib.hid (HF.out.trans hfA)
          replace HS := Lib.hid hsA
          clear hsA hfA hsB hfB HST HHE l0
          go_wp2_with fail
          refine hK undef _ ?_
          clear hK K hu1 fu1 hu2 fu2 u1 u2
          intro z2
          replace HF := Lib.hid (HF.out.trans (FrW.of z2.below HS.out.bw))
          replace HS := Lib.hid (HS.out.below z2.below)
          generalize z2.val = W' at *
          clear z2 gP gn8
          have HEF := Lib.hid (HE.out.frw HF.out)
          clear HE HF
          go_wp2_with fail
          go_roundw
          case rel => exact ⟨q + 1, by omega, by go_num, HS, HEF⟩
          case measure => simp [intOf]; omega
        · obtain rfl : q = j := by omega
          have HFIN := Lib.hid (HS.out.done (sz := 8 * fl + 2) (by omega))
          go_wp2_with fail
          go_returns
          exact HFIN.out.lower HRR.out.1 HRR.out.2
end Go.Proofs.YtpogngdddendiaaDoor
