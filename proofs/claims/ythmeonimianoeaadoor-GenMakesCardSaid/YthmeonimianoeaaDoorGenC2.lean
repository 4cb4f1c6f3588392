/- The walk over while: a place is filled in with what a call answers that may have laid the row anew. Bounds on the lengths. -/
import Derived.Test.YthmeonimianoeaaDoorGT
import Derived.Test.YthmeonimianoeaaDoorRelC
set_option linter.unusedVariables false
set_option linter.unusedSimpArgs false
namespace Go.Proofs.YthmeonimianoeaaDoor
open Go.RowKit

/-- What stands while the last place is filled in: ahead of the call, behind it, at the end. -/
def WhI (base g : Nat) (X : List Ins) (now0 high0 H : Nat) (w0 : World) (A : Option Addr) (ls : List (List Nd)) (W0 : World) (G now lo n ga nn c : Nat) : List Value → World → Prop
  | [], x => St base g X now0 high0 H w0 A ls x now lo n ∧ FrW base W0 x ∧ x.cell? ⟨g, 0, none⟩ = some (.slice (some ⟨ga, 0, none⟩) nn c) ∧ x.heap.size = W0.heap.size
  | [_], x => lo ≤ nn ∧ St base g X now0 high0 H w0 A ls x now (nn + 1) (n + 1) ∧ FrW base W0 x ∧ ((nn < c ∧ x.cell? ⟨g, 0, none⟩ = some (.slice (some ⟨ga, 0, none⟩) (nn + 1) c)) ∨ (c ≤ nn ∧ ∃ c', x.cell? ⟨g, 0, none⟩ = some (.slice (some ⟨G, 0, none⟩) (nn + 1) c') ∧ base ≤ ga ∧ ga < G ∧ ∃ xs, x.ownsRow base 53 4 (.slice (some ⟨ga, 0, none⟩) nn c) nn xs))
  | _, x => ∃ lo, St base g X now0 high0 H w0 A ls x now lo (n + 1)
def whT (ga G nn c : Nat) : PT := .op (fun v => v = .slice (some ⟨ga, 0, none⟩) nn c ∨ (nn < c ∧ v = .slice (some ⟨ga, 0, none⟩) (nn + 1) c) ∨ (c ≤ nn ∧ ∃ c', v = .slice (some ⟨G, 0, none⟩) (nn + 1) c')) ⟨_, .inl rfl⟩
/-- The store, wherever it goes. -/
theorem whStore {base g : Nat} {X : List Ins} {now0 high0 H : Nat} {w0 : World} {A : Option Addr} {ls : List (List Nd)} {W0 : World} {G now lo n ga nn c P : Nat} {v1 : Value} {y : World} (hX : X.length ≤ P) (hP : P < lo) (h : WhI base g X now0 high0 H w0 A ls W0 G now lo n ga nn c [v1] y) {b : Nat} (hb : b = ga ∨ (c ≤ nn ∧ b = G)) :
    (∃ u, y.cell? ⟨b, P * 4 + 1, none⟩ = some u) ∧ y.frozen? ⟨b, P * 4 + 1, none⟩ = false ∧ ∃ lo, St base g X now0 high0 H w0 A ls (y.setCell ⟨b, P * 4 + 1, none⟩ (.int .i64 nn)) now lo (n + 1) := by
  obtain ⟨hlo, hs, hf, hd⟩ := h
  rcases hd with ⟨hr, hc⟩ | ⟨hr, c', hc, hbg, hlt, xs, ho⟩
  · rcases hb with rfl | ⟨hr', _⟩
    · obtain ⟨_, h1, h2, h3, _⟩ := hs.fill2 hc (P := P) hX (by omega) nn (by omega)
      exact ⟨h1, h2, _, h3⟩
    · omega
  · rcases hb with rfl | ⟨_, rfl⟩
    · obtain ⟨h1, h2, h3, _⟩ := hs.stale hc (by omega) ho (P := P) (by omega) (.int .i64 nn)
      exact ⟨h1, h2, _, h3⟩
    · obtain ⟨_, h1, h2, h3, _⟩ := hs.fill2 hc (P := P) hX (by omega) nn (by omega)
      exact ⟨h1, h2, _, h3⟩
def whP (ga G nn c off : Nat) : PT := .op (fun v => v = .pointer (some ⟨ga, off, none⟩) ∨ (c ≤ nn ∧ v = .pointer (some ⟨G, off, none⟩))) ⟨_, .inl rfl⟩
set_option maxRecDepth 100000 in
set_option maxHeartbeats 4000000 in
theorem while_any (t0 t1 : Tr) (HT0 : DoOk t0) (HT1 : DoOk t1) (base g : Nat) (X : List Ins) (now high H : Nat) (A : Option Addr) (c m : Nat) (w : World)
    (h : WrI w base g X now high) (hk : KdS base w A [flat t0, flat t1]) (hm : m = 2) (hbw : base ≤ w.heap.size) (hH0 : heightT t0 ≤ H) (hH1 : heightT t1 ≤ H)
    (hX : X.length + 8 * ((flat t0).length + (flat t1).length) + 8 ≤ 30000000) (hnow : now + (flat t0).length + (flat t1).length ≤ 30000000) (hhi : high ≤ 30000000) (hH9 : now + H ≤ 30000000) :
    Calls Tryd.prog 63 #[.pointer (some ⟨g, 0, none⟩), .slice A m c] w (Wrote base g X now high now H (8 * ((flat t0).length + (flat t1).length)) w) := by
  subst hm
  obtain ⟨kb, ko, _, rfl, -⟩ := hk.at_ (k := 0) (by simp)
  have HS := Lib.hid (St.start (H := H) h hk hbw ⟨hhi, hH9⟩)
  have HF := Lib.hid (FrW.refl base w)
  have p0 := flat_pos t0
  have p1 := flat_pos t1
  clear h hk
  go_enter Tryd.func63, Tryd.ntmps63
  have HCC := Lib.hid (HS.out.op_ 17 0 1 [] (fun m _ => by simp [okI, placeA, placeB, countA]) (by omega))
  go_wp2_with fail
  refine HCC.out.mono ?_
  rintro e W' ⟨P1, rfl, hX1, hL1, hP1, hs', hf'⟩
  replace HS := Lib.hid hs'
  replace HF := Lib.hid (HF.out.trans hf')
  clear hs' hf' HCC
  have HCC := Lib.hid (HS.out.op_ 14 0 0 [] (fun m _ => by simp [okI, placeA, placeB, countA]) (by omega))
  go_wp2_with fail
  refine HCC.out.mono ?_
  rintro e W' ⟨P2, rfl, hX2, hL2, hP2, hs', hf'⟩
  replace HS := Lib.hid hs'
  replace HF := Lib.hid (HF.out.trans hf')
  clear hs' hf' HCC
  obtain ⟨Av, nv, cv, hkc, hcc⟩ := (HS.out.do_ (k := 0) HT0 (by simp) rfl (by omega) (by omega) (by omega))
  have HCC := Lib.hid hcc
  clear hcc
  first | (simp only [Nat.add_zero] at hkc) | skip
  go_wp2_with fail
  refine HCC.out.mono ?_
  rintro e W' ⟨rfl, hs', hf'⟩
  replace HS := Lib.hid hs'
  replace HF := Lib.hid (HF.out.trans hf')
  clear hs' hf' HCC hkc
  have HCC := Lib.hid (HS.out.op_ 19 0 0 [] (fun m _ => by simp [okI, placeA, placeB, countA]; omega) (by omega))
  go_wp2_with fail
  refine HCC.out.mono ?_
  rintro e W' ⟨P3, rfl, hX3, hL3, hP3, hs', hf'⟩
  replace HS := Lib.hid hs'
  replace HF := Lib.hid (HF.out.trans hf')
  clear hs' hf' HCC
  obtain ⟨Av, nv, cv, hkc, hcc⟩ := (HS.out.do_ (k := 1) HT1 (by simp) rfl (by omega) (by omega) (by omega))
  have HCC := Lib.hid hcc
  clear hcc
  first | (simp only [Nat.add_zero] at hkc) | skip
  go_wp2_with fail
  refine HCC.out.mono ?_
  rintro e W' ⟨rfl, hs', hf'⟩
  replace HS := Lib.hid hs'
  replace HF := Lib.hid (HF.out.trans hf')
  clear hs' hf' HCC hkc
  have HCC := Lib.hid (HS.out.op_ 17 0 2 [] (fun m _ => by simp [okI, placeA, placeB, countA]) (by omega))
  go_wp2_with fail
  refine HCC.out.mono ?_
  rintro e W' ⟨P4, rfl, hX4, hL4, hP4, hs', hf'⟩
  replace HS := Lib.hid hs'
  replace HF := Lib.hid (HF.out.trans hf')
  clear hs' hf' HCC
  have HCC := Lib.hid (HS.out.op_ 18 P2 0 [] (fun m hm => by simp [okI, placeA, placeB, countA]; omega) (by omega))
  go_wp2_with fail
  refine HCC.out.mono ?_
  rintro e W' ⟨P5, rfl, hX5, hL5, hP5, hs', hf'⟩
  replace HS := Lib.hid hs'
  replace HF := Lib.hid (HF.out.trans hf')
  clear hs' hf' HCC
  obtain ⟨n5, hn5⟩ : ∃ n5, n5 = 0 + 1 + 1 + (8 * (flat t0).length - 3) + 1 + (8 * (flat t1).length - 3) + 1 + 1 := ⟨_, rfl⟩
  rw [← hn5] at HS
  obtain ⟨ga, gn, gc, hc0, hgn, hgn8⟩ := HS.out.cell0 (P := P3) (by omega) (by omega) (by omega)
  obtain ⟨G, hG⟩ : ∃ G, G = W'.heap.size + 1 := ⟨_, rfl⟩
  have HGG := Lib.hid hG
  clear hG
  have HI0 := Lib.hid (show WhI base g X now high H w (some ⟨kb, ko, none⟩) [flat t0, flat t1] W' G now (P5 + 1) n5 ga gn gc [] { W' with drawn := W'.drawn + 1 } from ⟨HS.out.below (Below.refl _ _).drew, FrW.of (Below.refl _ _).drew HS.out.bw, hc0, rfl⟩)
  clear HS hc0
  go_upto_region 7 with (fail)
  apply wp_region_ph [9, 12] (WhI base g X now high H w (some ⟨kb, ko, none⟩) [flat t0, flat t1] W' G now (P5 + 1) n5 ga gn gc) [opE _, opE _, opE _, opE _, whT ga G gn gc, opE _, opE _, opE _, opE _, keyE (.int .i64 gn), whP ga G gn gc (P3 * 4), whP ga G gn gc (P3 * 4 + 1), keyAny] (by kernel_rfl) (by kernel_rfl) (by kernel_rfl) rfl rfl
  focus
    exact HI0.out
  focus
    refine ⟨?_, ?_⟩
    focus
      refine phOp (by kernel_rfl) fun kv x hlo hhi hI K hk => ?_
      clear hlo hhi
      have HI := Lib.hid hI
      clear hI
      go_wp2_with fail
      exact hk _ _ rfl HI.out
    rintro _ rfl
    simp only [Act.put, List.setIfInBounds_toArray, List.set_cons_succ, List.set_cons_zero]
    refine ⟨?_, ?_⟩
    focus
      refine phOp (by kernel_rfl) fun kv x hlo hhi hI K hk => ?_
      clear hlo hhi
      have HI := Lib.hid hI
      clear hI
      go_wp2_with fail
      exact hk _ _ rfl HI.out
    rintro _ rfl
    simp only [Act.put, List.setIfInBounds_toArray, List.set_cons_succ, List.set_cons_zero]
    refine ⟨?_, ?_⟩
    focus
      refine phOp (by kernel_rfl) fun kv x hlo hhi hI K hk => ?_
      clear hlo hhi
      have HI := Lib.hid hI
      clear hI
      go_wp2_with fail
      exact hk _ _ rfl HI.out
    rintro _ rfl
    simp only [Act.put, List.setIfInBounds_toArray, List.set_cons_succ, List.set_cons_zero]
    refine ⟨?_, ?_⟩
    focus
      refine phOp (by kernel_rfl) fun kv x hlo hhi hI K hk => ?_
      clear hlo hhi
      have HI := Lib.hid hI
      clear hI
      go_wp2_with fail
      exact hk _ _ rfl HI.out
    rintro _ rfl
    simp only [Act.put, List.setIfInBounds_toArray, List.set_cons_succ, List.set_cons_zero]
    refine ⟨?_, ?_⟩
    focus
      refine phOp (by kernel_rfl) fun kv x hlo hhi hI K hk => ?_
      have hl1 : kv.length ≤ 1 := phHi_le hhi (by kernel_rfl)
      clear hlo hhi
      match kv, hl1, hI with
      | [], _, hI =>
        have l0 := hI.2.2.1
        have HI := Lib.hid hI
        clear hI
        go_wp2_with fail
        exact hk _ _ (.inl rfl) HI.out
      | [v1], _, hI =>
        have HI := Lib.hid hI
        rcases hI.2.2.2 with ⟨hr, l0⟩ | ⟨hr, c', l0, _⟩
        · clear hI
          go_wp2_with fail
          exact hk _ _ (.inr (.inl ⟨hr, rfl⟩)) HI.out
        · clear hI
          go_wp2_with fail
          exact hk _ _ (.inr (.inr ⟨hr, c', rfl⟩)) HI.out
    rintro _ (rfl | ⟨hr, rfl⟩ | ⟨hr, c', rfl⟩)
    all_goals
      simp only [Act.put, List.setIfInBounds_toArray, List.set_cons_succ, List.set_cons_zero]
      refine ⟨?_, ?_⟩
      focus
        refine phOp (by kernel_rfl) fun kv x hlo hhi hI K hk => ?_
        clear hlo hhi
        have HI := Lib.hid hI
        clear hI
        go_wp2_with fail
        exact hk _ _ rfl HI.out
      rintro _ rfl
      simp only [Act.put, List.setIfInBounds_toArray, List.set_cons_succ, List.set_cons_zero]
      refine ⟨?_, ?_⟩
      focus
        refine phOp (by kernel_rfl) fun kv x hlo hhi hI K hk => ?_
        clear hlo hhi
        have HI := Lib.hid hI
        clear hI
        go_wp2_with fail
        exact hk _ _ rfl HI.out
      rintro _ rfl
      simp only [Act.put, List.setIfInBounds_toArray, List.set_cons_succ, List.set_cons_zero]
      refine ⟨?_, ?_⟩
      focus
        refine phOp (by kernel_rfl) fun kv x hlo hhi hI K hk => ?_
        clear hlo hhi
        have HI := Lib.hid hI
        clear hI
        go_wp2_with fail
        exact hk _ _ rfl HI.out
      rintro _ rfl
      simp only [Act.put, List.setIfInBounds_toArray, List.set_cons_succ, List.set_cons_zero]
      refine ⟨?_, ?_⟩
      focus
        refine phOp (by kernel_rfl) fun kv x hlo hhi hI K hk => ?_
        clear hlo hhi
        have HI := Lib.hid hI
        clear hI
        go_wp2_with fail
        exact hk _ _ rfl HI.out
      rintro _ rfl
      simp only [Act.put, List.setIfInBounds_toArray, List.set_cons_succ, List.set_cons_zero]
      refine ⟨?_, ?_⟩
      focus
        refine phKey (by kernel_rfl) fun y hI K hk => ?_
        have HCC := Lib.hid (hI.1.op2 hI.2.2.1 17 0 3 [] (fun m _ => by simp [okI, placeA, placeB, countA]) (by omega))
        have HI := Lib.hid hI
        clear hI
        go_wp2_with fail
        refine HCC.out.mono ?_
        rintro e W2 ⟨rfl, hlo, hs, hf, hd⟩
        refine hk _ _ rfl ⟨hlo, hs, HI.out.2.1.trans hf, ?_⟩
        rw [HI.out.2.2.2, ← HGG.out] at hd
        rcases hd with hd | ⟨h1, c2, h2, h3, h4, h5⟩
        · exact .inl hd
        · exact .inr ⟨h1, c2, h2, h3, (by have := HGG.out; omega), h5⟩
      rintro _ rfl
      simp only [Act.put, List.setIfInBounds_toArray, List.set_cons_succ, List.set_cons_zero]
      refine ⟨?_, ?_⟩
      focus
        refine phOp (by kernel_rfl) fun kv x hlo hhi hI K hk => ?_
        clear hlo hhi
        have HI := Lib.hid hI
        clear hI
        go_wp2_with fail
        first | exact hk _ _ (.inl rfl) HI.out | exact hk _ _ (.inr ⟨hr, rfl⟩) HI.out
      rintro _ (rfl | ⟨hr2, rfl⟩)
      all_goals first | (exfalso; omega) | skip
      all_goals
        simp only [Act.put, List.setIfInBounds_toArray, List.set_cons_succ, List.set_cons_zero]
        refine ⟨?_, ?_⟩
        focus
          refine phOp (by kernel_rfl) fun kv x hlo hhi hI K hk => ?_
          clear hlo hhi
          have HI := Lib.hid hI
          clear hI
          go_wp2_with fail
          first | exact hk _ _ (.inl rfl) HI.out | exact hk _ _ (.inr ⟨hr2, rfl⟩) HI.out
        rintro _ (rfl | ⟨hr3, rfl⟩)
        · simp only [Act.put, List.setIfInBounds_toArray, List.set_cons_succ, List.set_cons_zero]
          refine ⟨?_, ?_⟩
          focus
            refine phKey (by kernel_rfl) fun y hI K hk => ?_
            obtain ⟨⟨u1, hu1⟩, fu1, hnx⟩ := whStore (P := P3) (by omega) (by omega) hI (b := ga) (.inl rfl)
            have HNX := Lib.hid hnx
            clear hI hnx
            go_wp2_with fail
            exact hk undef _ trivial HNX.out
          rintro _ -
          simp only [Act.put, List.setIfInBounds_toArray, List.set_cons_succ, List.set_cons_zero]
          intro x hx
          obtain ⟨lo, hx⟩ := hx
          have HFIN := Lib.hid (hx.done (sz := 8 * ((flat t0).length + (flat t1).length)) (by omega))
          clear hx
          go_wp2_with fail
          go_returns
          exact HFIN.out
        · first | (exfalso; omega) | skip
          all_goals
            simp only [Act.put, List.setIfInBounds_toArray, List.set_cons_succ, List.set_cons_zero]
            refine ⟨?_, ?_⟩
            focus
              refine phKey (by kernel_rfl) fun y hI K hk => ?_
              obtain ⟨⟨u1, hu1⟩, fu1, hnx⟩ := whStore (P := P3) (by omega) (by omega) hI (b := G) (.inr ⟨hr3, rfl⟩)
              have HNX := Lib.hid hnx
              clear hI hnx
              go_wp2_with fail
              exact hk undef _ trivial HNX.out
            rintro _ -
            simp only [Act.put, List.setIfInBounds_toArray, List.set_cons_succ, List.set_cons_zero]
            intro x hx
            obtain ⟨lo, hx⟩ := hx
            have HFIN := Lib.hid (hx.done (sz := 8 * ((flat t0).length + (flat t1).length)) (by omega))
            clear hx
            go_wp2_with fail
            go_returns
            exact HFIN.out
end Go.Proofs.YthmeonimianoeaaDoor
