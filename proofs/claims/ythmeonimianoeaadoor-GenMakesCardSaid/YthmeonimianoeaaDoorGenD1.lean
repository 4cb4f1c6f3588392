/- The walks over ops and ticked, kind by kind. Bounds on the lengths. -/
import Derived.Test.YthmeonimianoeaaDoorGenC1
import Derived.Test.YthmeonimianoeaaDoorGenC2
import Derived.Test.YthmeonimianoeaaDoorGenC3
set_option linter.unusedVariables false
set_option linter.unusedSimpArgs false
namespace Go.Proofs.YthmeonimianoeaaDoor
open Go.RowKit
theorem gix (kd : Int) (h : kd = 5 ∨ kd = 6 ∨ kd = 7 ∨ kd = 8 ∨ kd = 9 ∨ kd = 10 ∨ kd = 11) (W : World) : (Instr.index 170 (.agg #[.int .i64 0, .int .i64 0, .int .i64 0, .int .i64 0, .int .i64 0, .int .i64 5, .int .i64 6, .int .i64 7, .int .i64 8, .int .i64 9, .int .i64 10, .int .i64 11]) (.int .i64 kd)).run Tryd.prog W = .ok (.int .i64 kd) W := by
  rcases h with rfl | rfl | rfl | rfl | rfl | rfl | rfl
  all_goals kernel_rfl
set_option maxRecDepth 100000 in
set_option maxHeartbeats 2000000 in
theorem gops_any (kd : Int) (h5 : 5 ≤ kd) (h11 : kd ≤ 11) (w : World) : Calls Tryd.prog 129 #[.int .i64 kd] w (Ret w (.int .i64 kd)) := by
  have hix := fun W => gix kd (by omega) W
  go_enter Tryd.func129, Tryd.ntmps129
  go_wp2_with fail
  go_ret
  exact ⟨rfl, Below.refl _ _⟩
/-- What is handed to ticked. -/
structure TkIn (base g : Nat) (X : List Ins) (now high H fl : Nat) (A : Option Addr) (ls : List (List Nd)) (w : World) : Prop where
  wr : WrI w base g X now high
  kd : KdS base w A ls
  bw : base ≤ w.heap.size
  x : X.length + 8 * fl + 7 ≤ 30000000
  nb : now + fl + 1 ≤ 30000000
  hi : high ≤ 30000000
  h9 : now + H ≤ 30000000
def TkRet (base g : Nat) (X : List Ins) (now high H fl : Nat) (w : World) (e : Ending) (w' : World) : Prop := Wrote base g X now high now H (8 * fl + 4) w e w'
theorem TkRet.of {base g : Nat} {X : List Ins} {now high H fl : Nat} {w w1 : World} {e : Ending} {w' : World} (h : TkRet base g X now high H fl w1 e w') (hb : Below w.heap.size w w1) (hbw : base ≤ w.heap.size) : TkRet base g X now high H fl w e w' :=
  let ⟨Y, hi, h1, h2, h3, h4, h5, h6, h7⟩ := h
  ⟨Y, hi, h1, h2, h3, h4, h5, h6, (FrW.of hb hbw).trans h7⟩
theorem TkIn.st {base g : Nat} {X : List Ins} {now high H fl : Nat} {A : Option Addr} {ls : List (List Nd)} {w w1 : World} (h : TkIn base g X now high H fl A ls w) (hb : Below w.heap.size w w1) : St base g X now high H w A ls w1 now X.length 0 :=
  (St.start (H := H) h.wr h.kd h.bw ⟨h.hi, h.h9⟩).below hb
set_option maxRecDepth 100000 in
set_option maxHeartbeats 4000000 in
theorem tk22 (t0 : Tr) (HT0 : WordOk t0) (n kk z : Int) (s : List UInt8) (hs : s.length ≤ 2000) (base g : Nat) (X : List Ins) (now high H : Nat) (A : Option Addr) (c m : Nat) (w : World) (h : TkIn base g X now high H (flat t0).length A [flat t0] w) (hm : m = 1) (hH0 : heightT t0 ≤ H) :
    Calls Tryd.prog 65 #[.pointer (some ⟨g, 0, none⟩), .agg #[.int .i64 22, .int .i64 n, .int .i64 kk, .int .i64 z, .string ⟨s.toArray⟩], .slice A m c] w (TkRet base g X now high H (flat t0).length w) := by
  subst hm
  obtain ⟨kb, ko, _, rfl, -⟩ := h.kd.at_ (k := 0) (by simp)
  have hx := h.x
  have hnow := h.nb
  have h9 := h.h9
  have p0 := flat_pos t0
  have HSL := Lib.hid hs
  have HBX := Lib.hid (Blk.new w 40 #[.int .i64 22, .int .i64 n, .int .i64 kk, .int .i64 z, .string ⟨s.toArray⟩])
  have HS := Lib.hid (h.st ((Below.refl _ w).alloc (Nat.le_refl _) (.cells #[.int .i64 22, .int .i64 n, .int .i64 kk, .int .i64 z, .string ⟨s.toArray⟩] 40)))
  generalize hw1 : w.alloc (.cells #[.int .i64 22, .int .i64 n, .int .i64 kk, .int .i64 z, .string ⟨s.toArray⟩] 40) = w1 at *
  have HW1 := Lib.hid hw1
  obtain ⟨gx, hgx⟩ : ∃ gx, gx = w.heap.size := ⟨_, rfl⟩
  rw [← hgx] at HBX
  have HGX := Lib.hid hgx
  have HF := Lib.hid (FrW.refl base w1)
  have q0 := HBX.out.cell 0
  simp only [List.getElem?_toArray, List.getElem?_cons_zero, List.getElem?_cons_succ] at q0
  clear h hs hw1 hgx
  go_enter Tryd.func65, Tryd.ntmps65
  go_upto_region 1 with (fail)
  rw [HW1.out, ← HGX.out]
  clear HW1 HGX
  obtain ⟨Av, nv, cv, hkc, hcc⟩ := (HS.out.word_ (k := 0) HT0 (by simp) rfl (by omega) (by omega) (by omega))
  have HCC := Lib.hid hcc
  clear hcc
  first | (simp only [Nat.add_zero] at hkc) | skip
  go_wp2_with fail
  refine HCC.out.mono ?_
  rintro e W' ⟨rfl, hs', hf'⟩
  replace HS := Lib.hid hs'
  replace HF := Lib.hid (HF.out.trans hf')
  clear hs' hf' HCC hkc
  clear q0
  have q4 := (HBX.out.others HF.out.others (by decide)).cell 4
  simp only [List.getElem?_toArray, List.getElem?_cons_zero, List.getElem?_cons_succ] at q4
  have l4 := Later.cell q4
  have HOPC := Lib.hid (fun (W2 : World) hW => St.op_ (HS.out.below (W' := W2) hW) 16 0 0 s (fun m _ => by simp [okI, placeA, placeB, countA, HSL.out]) (by omega))
  go_upto_region 9 with (fail)
  clear q4
  refine wp_region_mid 5 _ rfl rfl (by kernel_rfl) (by kernel_rfl) (by kernel_rfl) ?_
  apply EqGo.run
  focus
    kernel_rfl
  focus
    intro x K hK
    go_wp2_with fail
    first | exact hK x (Below.refl _ _) | exact Below.refl _ _
  simp only [Act.put, List.setIfInBounds_toArray, List.set_cons_succ, List.set_cons_zero]
  apply EqGo.run
  focus
    kernel_rfl
  focus
    intro x K hK
    go_wp2_with fail
    first | exact hK x (Below.refl _ _) | exact Below.refl _ _
  simp only [Act.put, List.setIfInBounds_toArray, List.set_cons_succ, List.set_cons_zero]
  apply EqGo.run
  focus
    kernel_rfl
  focus
    intro x K hK
    go_wp2_with fail
    first | exact hK x (Below.refl _ _) | exact Below.refl _ _
  simp only [Act.put, List.setIfInBounds_toArray, List.set_cons_succ, List.set_cons_zero]
  apply EqGo.run
  focus
    kernel_rfl
  focus
    intro x K hK
    go_wp2_with fail
    first | exact hK x (Below.refl _ _) | exact Below.refl _ _
  simp only [Act.put, List.setIfInBounds_toArray, List.set_cons_succ, List.set_cons_zero]
  apply EqGo.run
  focus
    kernel_rfl
  focus
    intro x K hK
    go_wp2_with fail
    first | exact hK x (Below.refl _ _) | exact Below.refl _ _
  simp only [Act.put, List.setIfInBounds_toArray, List.set_cons_succ, List.set_cons_zero]
  intro z K hK
  have HCC := Lib.hid (HOPC.out z.val z.below)
  have HFz := Lib.hid (FrW.of z.below HS.out.bw)
  clear HOPC l4
  go_wp2_with fail
  refine HCC.out.mono ?_
  rintro e W' ⟨P1, rfl, hX1, hL1, hP1, hs', hf'⟩
  replace HS := Lib.hid hs'
  replace HF := Lib.hid ((HF.out.trans HFz.out).trans hf')
  clear hs' hf' HCC HFz
  refine hK _ _ ?_
  clear hK K
  intro z2
  replace HF := Lib.hid (HF.out.trans (FrW.of z2.below HS.out.bw))
  replace HS := Lib.hid (HS.out.below z2.below)
  generalize z2.val = W' at *
  clear z2
  have HCC := Lib.hid (HS.out.push_ now (-1) (by omega) (by omega) (by omega))
  go_wp2_with fail
  refine HCC.out.mono ?_
  rintro e W' ⟨rfl, hs', hf'⟩
  replace HS := Lib.hid hs'
  replace HF := Lib.hid (HF.out.trans hf')
  clear hs' hf' HCC
  have HFIN := Lib.hid (HS.out.done (sz := 8 * (flat t0).length + 4) (by omega))
  go_wp2_with fail
  go_returns
  exact HFIN.out
end Go.Proofs.YthmeonimianoeaaDoor
