/- The walk over gen.Compile: a program's code, or the check's error. A bound on the size. -/
import Derived.Test.YtpogngdddendiaaDoorGD
import Derived.Test.YtpogngdddendiaaDoorCheckW
set_option linter.unusedVariables false
set_option linter.unusedSimpArgs false
namespace Go.Proofs.YtpogngdddendiaaDoor
open Go.RowKit

def codeV (A : Option Addr) (n c : Nat) (st : Int) : Value := .agg #[.slice A n c, .int .i64 st]
/-- The code of a good tree. -/
structure CodeG (t : Tr) (X : List Ins) (st : Nat) : Prop where
  pos : 0 < X.length
  len : X.length ≤ 8 * (flat t).length
  ok : ∀ x ∈ X, okI (X.length - 1) x = true
  last : ∀ h : X.length - 1 < X.length, X[X.length - 1].op = 41
  st : st ≤ heightT t
/-- A good tree gives its code. -/
def CompOk (t : Tr) (w : World) (e : Ending) (w' : World) : Prop :=
  ∃ A c X st, e = .returned (.tuple #[codeV A X.length c (st : Nat), .nilIface]) ∧ Below w.heap.size w w' ∧ w'.ownsRow w.heap.size 36 4 (.slice A X.length c) X.length (X.flatMap insc) ∧ CodeG t X st
/-- The same; the stack has been so high at least. -/
def CompLow (t : Tr) (m : Nat) (w : World) (e : Ending) (w' : World) : Prop :=
  ∃ A c X st, e = .returned (.tuple #[codeV A X.length c (st : Nat), .nilIface]) ∧ Below w.heap.size w w' ∧ w'.ownsRow w.heap.size 36 4 (.slice A X.length c) X.length (X.flatMap insc) ∧ CodeG t X st ∧ m ≤ st
/-- Else the check's error comes back. -/
def CompBad (L : List Nd) (aN aT aM : Addr) (w : World) (e : Ending) (w' : World) : Prop :=
  ∃ v, e = .returned (.tuple #[codeV none 0 0 0, v]) ∧ Below w.heap.size w w' ∧ (if manyB L = true then v = .iface 226 (.pointer (some aM)) else LookV w' w.heap.size aN aT (checkP L) v)

theorem CodeG.made {t : Tr} {Y : List Ins} {hi : Nat} (hlen : Y.length ≤ 8 * (flat t).length - 3) (hok : ∀ y ∈ Y, okI Y.length y = true) (hh : hi ≤ heightT t) : CodeG t (Y ++ [⟨41, 0, 0, []⟩]) hi := by
  have hp := flat_pos t
  refine ⟨by simp, by simp; omega, fun x hx => ?_, fun h => by simp, hh⟩
  rw [show (Y ++ [(⟨41, 0, 0, []⟩ : Ins)]).length - 1 = Y.length by simp]
  rcases List.mem_append.1 hx with hx | hx
  · exact hok x hx
  · rw [List.mem_singleton.1 hx]
    simp [okI, placeA, placeB, countA]

theorem LookV.but {w w' : World} {B B' g : Nat} {aN aT : Addr} {r : Option (Nat × Bool)} {v : Value} (h : LookV w B aN aT r v) (hb : But g w w') (hg : g < B) (hB : B' ≤ B) : LookV w' B' aN aT r v := by
  cases r with
  | none => exact h
  | some z =>
    obtain ⟨i, n⟩ := z
    obtain ⟨k, h1, h2, h3, h4⟩ := h
    exact ⟨k, h1, by omega, hb.cell h3 (show k ≠ g by omega), hb.cell h4 (show k ≠ g by omega)⟩
set_option maxRecDepth 100000 in
set_option maxHeartbeats 4000000 in
theorem compile_bad (A : Option Addr) (cp : Nat) (L : List Nd) (aN aT aM : Addr) (w : World) (hL : L.length ≤ 4000000) (hok : ∀ x ∈ L, NdOk x) (hrd : RdL w 5 ndc A L) (hE : ErrW w aN aT aM) (hbad : manyB L = true ∨ checkP L ≠ none) :
    Calls Tryd.prog 10 #[.slice A L.length cp] w (CompBad L aN aT aM w) := by
  obtain ⟨w1, hw1⟩ : ∃ w1, w1 = w.alloc (.cells #[.slice none 0 0, .int .i64 0] 29) := ⟨_, rfl⟩
  have hb1 : Below w.heap.size w w1 := by rw [hw1]; exact (Below.refl _ _).alloc (Nat.le_refl _) _
  have hs1 : w1.heap.size = w.heap.size + 1 := by rw [hw1]; simp
  have hBk : Blk w1 w.heap.size 29 #[.slice none 0 0, .int .i64 0] := by rw [hw1]; exact Blk.new _ _ _
  have CK := Lib.hid (check_any A cp L aN aT aM w1 hL hok (hrd.below hb1) (hE.below hb1))
  have HB1 := Lib.hid hb1
  have HS1 := Lib.hid hs1
  have HW := Lib.hid hw1
  have HBK := Lib.hid hBk
  have HBAD := Lib.hid hbad
  obtain ⟨m, hm⟩ : ∃ m, m = L.length := ⟨_, rfl⟩
  rw [← hm] at CK ⊢
  clear hm
  obtain ⟨B, hB⟩ : ∃ B, B = w.heap.size := ⟨_, rfl⟩
  clear hw1 hs1 hBk hbad hrd hE hok hL hb1
  go_enter Tryd.func10, Tryd.ntmps10
  go_wp2_with fail
  rw [← HW.out]
  refine CK.out.mono ?_
  rintro e w2 ⟨v, rfl, hv, hb2⟩
  have HB2 := Lib.hid hb2
  have HB3 := Lib.hid (HBK.out.below hb2)
  have q0 := HB3.out.cell 0
  have q1 := HB3.out.cell 1
  have f0 := HB3.out.frozen 0
  have f1 := HB3.out.frozen 1
  have s0 := HB3.out.set 0 (.slice none 0 0)
  have s1 := s0.set 1 (.int .i64 0)
  have g0 := s0.cell 0
  have g3 := s0.frozen 0
  have g1 := s0.cell 1
  have g2 := s0.frozen 1
  have r0 := s1.cell 0
  have r1 := s1.cell 1
  have HF := Lib.hid ((But.set (B := w.heap.size) w2 0 (.slice none 0 0)).trans (But.set _ 1 (.int .i64 0)))
  simp only [List.getElem?_toArray, List.getElem?_cons_zero, List.getElem?_cons_succ, List.setIfInBounds_toArray, List.set_cons_zero, List.set_cons_succ] at q0 q1 g0 g1 r0 r1
  clear s0 s1
  obtain ⟨aa, hva⟩ : ∃ aa, v = .iface 226 (.pointer (some aa)) ∨ v = .iface 81 (.pointer (some aa)) := by
    by_cases hm2 : manyB L = true
    · rw [if_pos hm2] at hv
      exact ⟨aM, .inl hv⟩
    · rw [if_neg hm2] at hv
      have hcp := HBAD.out.resolve_left hm2
      cases hc : checkP L with
      | none => exact absurd hc hcp
      | some z =>
        obtain ⟨i, n⟩ := z
        rw [hc] at hv
        obtain ⟨g, h, _⟩ := hv
        exact ⟨_, .inr h⟩
  have HV := Lib.hid hv
  clear hv hb2 CK
  rcases hva with rfl | rfl
  · go_wp2_with fail
    (try simp only [Exit.inBlock, Exit.then])
    refine bodyPost_ret (by simp [results, Tryd.results10, go_sem, g0, r1]; try rfl) rfl ?_
    have hb12 := HB1.out.trans (HB2.out.mono HB1.out.size)
    refine ⟨_, rfl, hb12.trans (HF.out.below (Nat.le_refl _) hb12.size), ?_⟩
    have HV2 := HV.out
    split at HV2
    · rename_i h
      rw [if_pos h]
      exact HV2
    · rename_i h
      rw [if_neg h]
      exact HV2.but HF.out (by rw [HS1.out]; omega) (by rw [HS1.out]; omega)
  · go_wp2_with fail
    (try simp only [Exit.inBlock, Exit.then])
    refine bodyPost_ret (by simp [results, Tryd.results10, go_sem, g0, r1]; try rfl) rfl ?_
    have hb12 := HB1.out.trans (HB2.out.mono HB1.out.size)
    refine ⟨_, rfl, hb12.trans (HF.out.below (Nat.le_refl _) hb12.size), ?_⟩
    have HV2 := HV.out
    split at HV2
    · rename_i h
      rw [if_pos h]
      exact HV2
    · rename_i h
      rw [if_neg h]
      exact HV2.but HF.out (by rw [HS1.out]; omega) (by rw [HS1.out]; omega)

set_option maxRecDepth 100000 in
set_option maxHeartbeats 4000000 in
theorem compile_low (A : Option Addr) (cp : Nat) (t : Tr) (lm : Nat) (aN aT aM : Addr) (w : World) (hL : (flat t).length ≤ 1100) (hok : ∀ x ∈ flat t, NdOk x) (hrd : RdL w 5 ndc A (flat t)) (hsl : SlRd w (.slice A (flat t).length cp) (flat t)) (hE : ErrW w aN aT aM) (hgood : okT 30 false t = true) (hlow : DoLow t lm) :
    Calls Tryd.prog 10 #[.slice A (flat t).length cp] w (CompLow t lm w) := by
  obtain ⟨w1, hw1⟩ : ∃ w1, w1 = w.alloc (.cells #[.slice none 0 0, .int .i64 0] 29) := ⟨_, rfl⟩
  have hb1 : Below w.heap.size w w1 := by rw [hw1]; exact (Below.refl _ _).alloc (Nat.le_refl _) _
  have hs1 : w1.heap.size = w.heap.size + 1 := by rw [hw1]; simp
  have hBk : Blk w1 w.heap.size 29 #[.slice none 0 0, .int .i64 0] := by rw [hw1]; exact Blk.new _ _ _
  have hmany : manyB (flat t) = false := by
    have := flat_pos t
    simp only [manyB, Bool.or_eq_false_iff, beq_eq_false_iff_ne, decide_eq_false_iff_not]
    omega
  have CK := Lib.hid (show Calls Tryd.prog 9 #[.slice A (flat t).length cp] w1 (Ret w1 .nilIface) from by
    refine (check_any A cp (flat t) aN aT aM w1 (by omega) hok (hrd.below hb1) (hE.below hb1)).mono ?_
    rintro e w' ⟨v, rfl, hv, hb⟩
    rw [hmany, if_neg Bool.noConfusion, (check_flat t).2 hgood] at hv
    obtain rfl : v = Value.nilIface := hv
    exact ⟨rfl, hb⟩)
  have HB1 := Lib.hid hb1
  have HS1 := Lib.hid hs1
  have HW := Lib.hid hw1
  have HBK := Lib.hid hBk
  have HDO := Lib.hid hlow
  have HSL := Lib.hid (hsl.below hb1)
  obtain ⟨m, hm⟩ : ∃ m, m = (flat t).length := ⟨_, rfl⟩
  rw [← hm] at CK HSL hL ⊢
  have HM := Lib.hid hm
  clear hw1 hs1 hBk hrd hE hok hb1 hm hmany hsl hgood hlow
  go_enter Tryd.func10, Tryd.ntmps10
  go_wp2_with fail
  rw [← HW.out]
  refine CK.out.mono ?_
  rintro e w2 ⟨rfl, hb2⟩
  have HB2 := Lib.hid hb2
  have HSL2 := Lib.hid (HSL.out.below hb2)
  obtain ⟨w3, hw3⟩ : ∃ w3, w3 = w2.alloc (.cells #[.slice none 0 0, .int .i64 0, .int .i64 0] 72) := ⟨_, rfl⟩
  have hb3 : Below w2.heap.size w2 w3 := by rw [hw3]; exact (Below.refl _ _).alloc (Nat.le_refl _) _
  have hs3 : w3.heap.size = w2.heap.size + 1 := by rw [hw3]; simp
  have hBw : Blk w3 w2.heap.size 72 #[.slice none 0 0, .int .i64 0, .int .i64 0] := by rw [hw3]; exact Blk.new _ _ _
  have HWR := Lib.hid (show WrI w3 w2.heap.size w2.heap.size [] 0 0 from ⟨⟨Nat.le_refl _, Nat.le_refl _⟩, _, hBw, none, 0, rfl, ⟨by simp, .inl ⟨rfl, rfl⟩⟩⟩)
  have HSW := Lib.hid ((SlS.old HSL2.out (Nat.le_refl _)).frw (FrW.of hb3 (Nat.le_refl _)))
  have HC := Lib.hid (HDO.out w2.heap.size w2.heap.size [] 0 0 _ w3 HWR.out HSW.out hb3.size (by rw [← HM.out, List.length_nil]; omega) (by rw [← HM.out]; omega) (by omega))
  have HB3 := Lib.hid hb3
  have HW3 := Lib.hid hw3
  clear hb2 CK hb3 hw3 hs3 hBw
  go_wp2_with fail
  rw [← HW3.out]
  refine HC.out.mono ?_
  rintro e w4 ⟨hr, hr1, hr2, Y, hi, rfl, hwr, hlo, hhi, hlen, hok, hfr⟩
  rw [List.nil_append] at hwr
  simp only [List.length_nil, Nat.zero_add] at hok hhi hr1 hr2
  have HLO := Lib.hid (show lm ≤ hi by omega)
  obtain ⟨A1, c1, hwa⟩ := hwr.at_
  have HLEN := hlen
  rw [← HM.out] at HLEN
  have HOP := Lib.hid (op_any 41 0 0 [] w4 hwa (by omega) (Nat.le_trans HB3.out.size hfr.below.size))
  clear HLEN
  have HB4 := Lib.hid hfr.below
  have HC4 := Lib.hid (show hi ≤ heightT t ∧ Y.length ≤ 8 * (flat t).length - 3 ∧ Y.length ≤ 8800 from ⟨by omega, hlen, by rw [← HM.out] at hlen; omega⟩)
  clear hr1 hr2
  have HOK := Lib.hid hok
  clear hwr hwa hok hlen hlo hhi hfr HC HWR HSW HDO HSL HSL2
  go_wp2_with fail
  refine HOP.out.mono ?_
  rintro e w5 ⟨A2, c2, rfl, hwr, hfr, -⟩
  have HB5 := Lib.hid hfr.below
  have HWR := Lib.hid hwr
  have HYL := HC4.out.2.2
  obtain ⟨yl, hyl⟩ : ∃ yl, yl = (Y ++ [(⟨41, 0, 0, []⟩ : Ins)]).length := ⟨_, rfl⟩
  have hyl2 : yl ≤ 8801 := by rw [hyl]; simp; omega
  have p0 := hwr.2.1.cell 0
  have p2 := hwr.2.1.cell 2
  simp only [List.getElem?_toArray, List.getElem?_cons_zero, List.getElem?_cons_succ] at p0 p2
  rw [← hyl] at p0
  have HYY := Lib.hid hyl
  have hguard : decide ((9000 : Int) < (yl : Int)) = false := by rw [decide_eq_false_iff_not]; omega
  clear hwr hfr HOP hyl HYL
  have l0 := Later.cell p0
  have l2 := Later.cell p2
  go_upto_region 9 with (fail)
  refine wp_region_mid 10 _ rfl rfl (by kernel_rfl) (by kernel_rfl) (by kernel_rfl) ?_
  apply EqGo.run
  focus
    kernel_rfl
  focus
    intro x K hK
    go_wp2_with fail
    first | exact hK x (Below.refl _ _) | exact Below.refl _ _
  simp only [Act.put, List.setIfInBounds_toArray, List.set_cons_succ, List.set_cons_zero]
  apply EqGo.run
  focus
    kernel_rfl
  focus
    intro x K hK
    go_wp2_with fail
    first | exact hK x (Below.refl _ _) | exact Below.refl _ _
  simp only [Act.put, List.setIfInBounds_toArray, List.set_cons_succ, List.set_cons_zero]
  apply EqGo.run
  focus
    kernel_rfl
  focus
    intro x K hK
    go_wp2_with fail
    first | exact hK x (Below.refl _ _) | exact Below.refl _ _
  simp only [Act.put, List.setIfInBounds_toArray, List.set_cons_succ, List.set_cons_zero]
  apply EqGo.run
  focus
    kernel_rfl
  focus
    intro x K hK
    go_wp2_with fail
    first | exact hK x (Below.refl _ _) | exact Below.refl _ _
  simp only [Act.put, List.setIfInBounds_toArray, List.set_cons_succ, List.set_cons_zero]
  apply EqGo.run
  focus
    kernel_rfl
  focus
    intro x K hK
    go_wp2_with fail
    first | exact hK x (Below.refl _ _) | exact Below.refl _ _
  simp only [Act.put, List.setIfInBounds_toArray, List.set_cons_succ, List.set_cons_zero]
  apply EqGo.run
  focus
    kernel_rfl
  focus
    intro x K hK
    go_wp2_with fail
    first | exact hK x (Below.refl _ _) | exact Below.refl _ _
  simp only [Act.put, List.setIfInBounds_toArray, List.set_cons_succ, List.set_cons_zero]
  apply EqGo.run
  focus
    kernel_rfl
  focus
    intro x K hK
    go_wp2_with fail
    first | exact hK x (Below.refl _ _) | exact Below.refl _ _
  simp only [Act.put, List.setIfInBounds_toArray, List.set_cons_succ, List.set_cons_zero]
  apply EqGo.run
  focus
    kernel_rfl
  focus
    intro x K hK
    go_wp2_with fail
    first | exact hK x (Below.refl _ _) | exact Below.refl _ _
  simp only [Act.put, List.setIfInBounds_toArray, List.set_cons_succ, List.set_cons_zero]
  apply EqGo.run
  focus
    kernel_rfl
  focus
    intro x K hK
    go_wp2_with fail
    first | exact hK x (Below.refl _ _) | exact Below.refl _ _
  simp only [Act.put, List.setIfInBounds_toArray, List.set_cons_succ, List.set_cons_zero]
  apply EqGo.run
  focus
    kernel_rfl
  focus
    intro x K hK
    go_wp2_with fail
    first | exact hK x (Below.refl _ _) | exact Below.refl _ _
  simp only [Act.put, List.setIfInBounds_toArray, List.set_cons_succ, List.set_cons_zero]
  intro z K hK
  have hlt : w.heap.size < w2.heap.size := by have := HB2.out.size; have := HS1.out; omega
  have HZ : Blk z.val w.heap.size 29 #[.slice none 0 0, .int .i64 0] := Blk.below ((HB5.out.block _ hlt).trans ((HB4.out.block _ hlt).trans ((HBK.out.below HB2.out).below HB3.out))) z.below
  have s0 := HZ.set 0 (.slice A2 yl c2)
  have s1 := s0.set 1 (.int .i64 hi)
  have q0 := HZ.cell 0
  have q1 := HZ.cell 1
  have f0 := HZ.frozen 0
  have g0 := s0.cell 0
  have g1 := s0.cell 1
  have g2 := s0.frozen 1
  have r0 := s1.cell 0
  have r1 := s1.cell 1
  have HF := Lib.hid ((But.set (B := w.heap.size) z.val 0 (.slice A2 yl c2)).trans (But.set _ 1 (.int .i64 hi)))
  simp only [List.getElem?_toArray, List.getElem?_cons_zero, List.getElem?_cons_succ, List.setIfInBounds_toArray, List.set_cons_zero, List.set_cons_succ] at q0 q1 g0 g1 r0 r1
  have HZ2 := Lib.hid HZ
  have HLT := Lib.hid hlt
  clear s0 s1 HZ hlt
  go_wp2_with fail
  refine hK undef _ ?_
  clear hK K q0 q1 g0 g1 g2 f0
  generalize (z.val.setCell ⟨w.heap.size, 0, none⟩ (.slice A2 yl c2)).setCell ⟨w.heap.size, 1, none⟩ (.int .i64 hi) = w6 at *
  apply EqGo.run
  focus
    kernel_rfl
  focus
    intro x K hK
    go_wp2_with fail
    first | exact hK x (Below.refl _ _) | exact Below.refl _ _
  simp only [Act.put, List.setIfInBounds_toArray, List.set_cons_succ, List.set_cons_zero]
  intro y2
  have t0 := cell_keep y2.below r0
  have t1 := cell_keep y2.below r1
  have HF2 := Lib.hid (HF.out.of2 (Below.mono y2.below (HF.out.size)))
  clear r0 r1
  go_wp2_with fail
  (try simp only [Exit.inBlock, Exit.then])
  refine bodyPost_ret (by simp [results, Tryd.results10, go_sem, t0, t1]; try rfl) rfl ?_
  have b01 := HB1.out
  have b02 := b01.trans (HB2.out.mono b01.size)
  have b03 := b02.trans (HB3.out.mono b02.size)
  have b04 := b03.trans (HB4.out.mono b02.size)
  have b05 := b04.trans (HB5.out.mono b02.size)
  have b06 := b05.trans (z.below.mono b05.size)
  have HO := own_mono (own_but (own_below HWR.out.2.2 z.below) HF2.out HZ2.out (by decide)) b02.size
  rw [← HYY.out] at HO
  refine ⟨A2, c2, Y ++ [⟨41, 0, 0, []⟩], hi, by rw [← HYY.out]; rfl, b06.trans (HF2.out.below (Nat.le_refl _) b06.size), by rw [← HYY.out]; exact HO, CodeG.made HC4.out.2.1 HOK.out HC4.out.1, HLO.out⟩
theorem compile_ok (A : Option Addr) (cp : Nat) (t : Tr) (aN aT aM : Addr) (w : World) (hL : (flat t).length ≤ 1100) (hok : ∀ x ∈ flat t, NdOk x) (hrd : RdL w 5 ndc A (flat t)) (hsl : SlRd w (.slice A (flat t).length cp) (flat t)) (hE : ErrW w aN aT aM) (hgood : okT 30 false t = true) :
    Calls Tryd.prog 10 #[.slice A (flat t).length cp] w (CompOk t w) :=
  (compile_low A cp t 0 aN aT aM w hL hok hrd hsl hE hgood ((gen_all _ t 30 (Nat.le_refl _)).2 hgood).low).mono fun e w' ⟨A, c, X, st, h1, h2, h3, h4, _⟩ => ⟨A, c, X, st, h1, h2, h3, h4⟩
end Go.Proofs.YtpogngdddendiaaDoor
