/- The walk over package patoissee's fault where an At is around a sentinel; Fault; Same. What the package-level errors hold is a hypothesis. -/
import Derived.Test.YtlhpflilpdceiaaDoorSeeW3
set_option linter.unusedVariables false
set_option linter.unusedSimpArgs false
namespace Go.Proofs.YtlhpflilpdceiaaDoor
open Go.RowKit

def fltT (B : Nat) (code : Int) (ats : List Int) : TT := ⟨fun v => ∃ A c, v = .agg #[.int .i64 code, .slice A ats.length c], ⟨_, none, 0, rfl⟩, fun v x => FltN x B v code ats, fun _ _ _ h hb => h.below hb⟩

set_option maxHeartbeats 2000000 in
theorem fault_at (L : List Addr) (w : World) (j : Nat) (a : Addr) (g : Nat) (i : Nat) (h : SenW w L) (hj : L[j]? = some a)
    (c0 : w.cell? ⟨g, 0, none⟩ = some (.int .i64 i)) (c1 : w.cell? ⟨g, 1, none⟩ = some (sentV a)) :
    Calls Tryd.prog 52 #[.iface 127 (.pointer (some ⟨g, 0, none⟩)), .int .i64 9] w (FltNRet (101 + j) [(i : Int)] w) := by
  obtain ⟨W0, hW0⟩ : ∃ W0, W0 = w.alloc (.cells #[.int .i64 0, .slice none 0 0] 52) := ⟨_, rfl⟩
  have hb0 : Below w.heap.size w W0 := by rw [hW0]; exact (Below.refl _ _).alloc (Nat.le_refl _) _
  have hB0 : Blk W0 w.heap.size 52 #[.int .i64 0, .slice none 0 0] := by rw [hW0]; exact Blk.new w _ _
  have HC := Lib.hid (fault_sent L W0 j a 8 (h.below hb0) hj (by decide) (by decide))
  have d0 := cell_keep hb0 c0
  have d1 := cell_keep hb0 c1
  have hA := assert_at
  have HB0 := Lib.hid hB0
  have hj0 : (101 + (j : Int)) ≠ 0 := by omega
  clear h hj c0 c1 hB0
  unfold sentV at *
  go_enter Tryd.func52, Tryd.ntmps52
  go_upto_region 8 with (fail)
  rw [← hW0]
  clear hW0
  go_upto_region 9 with (fail)
  refine HC.out.mono ?_
  rintro e w1 ⟨rfl, hb1⟩
  have f0 := cell_keep hb1 d0
  clear HC d0 d1
  unfold bareV
  obtain ⟨W1, hW1⟩ : ∃ W1, W1 = w1.alloc (.cells #[.int .i64 (101 + j), .slice none 0 0] 52) := ⟨_, rfl⟩
  have hb2 : Below w1.heap.size w1 W1 := by rw [hW1]; exact (Below.refl _ _).alloc (Nat.le_refl _) _
  have hB1 : Blk W1 w1.heap.size 52 #[.int .i64 (101 + j), .slice none 0 0] := by rw [hW1]; exact Blk.new w1 _ _
  have hBr := Lib.hid ((HB0.out.below hb1).below hb2)
  have p0 := cell_keep hb2 f0
  have m0 := hB1.cell 0
  have m1 := hB1.cell 1
  clear f0 hB1
  simp only [List.getElem?_toArray, List.getElem?_cons_zero, List.getElem?_cons_succ] at m0 m1
  go_upto_region 9 with (fail)
  rw [← hW1]
  clear hW1
  apply wp_region_relA 6 [eqT _, eqT _, eqT _, eqT _, eqT _, fltT W1.heap.size (101 + j) [(i : Int)]] (by kernel_rfl) (by kernel_rfl) (by kernel_rfl) rfl
  focus
    refine ⟨?_, ?_⟩
    focus
      unfold opGoal
      rw [if_pos (by kernel_rfl)]
      intro x hb hd K hk
      clear hd
      have l0 := cell_keep hb m0
      have l1 := cell_keep hb m1
      go_wp2_with fail
      exact hk _ _ rfl trivial (Below.refl _ _)
    rintro _ rfl
    simp only [Act.put, List.setIfInBounds_toArray, List.set_cons_succ, List.set_cons_zero]
    refine ⟨?_, ?_⟩
    focus
      unfold opGoal
      rw [if_pos (by kernel_rfl)]
      intro x hb hd K hk
      clear hd
      go_wp2_with fail
      exact hk _ _ rfl trivial (Below.refl _ _)
    rintro _ rfl
    simp only [Act.put, List.setIfInBounds_toArray, List.set_cons_succ, List.set_cons_zero]
    refine ⟨?_, ?_⟩
    focus
      unfold opGoal
      rw [if_pos (by kernel_rfl)]
      intro x hb hd K hk
      clear hd
      go_wp2_with fail
      exact hk _ _ rfl trivial (Below.refl _ _)
    rintro _ rfl
    simp only [Act.put, List.setIfInBounds_toArray, List.set_cons_succ, List.set_cons_zero]
    refine ⟨?_, ?_⟩
    focus
      unfold opGoal
      rw [if_pos (by kernel_rfl)]
      intro x hb hd K hk
      clear hd
      go_wp2_with fail
      exact hk _ _ rfl trivial (Below.refl _ _)
    rintro _ rfl
    simp only [Act.put, List.setIfInBounds_toArray, List.set_cons_succ, List.set_cons_zero]
    refine ⟨?_, ?_⟩
    focus
      unfold opGoal
      rw [if_pos (by kernel_rfl)]
      intro x hb hd K hk
      clear hd
      have l0 := cell_keep hb p0
      go_wp2_with fail
      exact hk _ _ rfl trivial (Below.refl _ _)
    rintro _ rfl
    simp only [Act.put, List.setIfInBounds_toArray, List.set_cons_succ, List.set_cons_zero]
    refine ⟨?_, ?_⟩
    focus
      unfold opGoal
      rw [if_pos (by kernel_rfl)]
      intro x hb hd K hk
      clear hd
      go_wp2_with fail
      refine (around_any _ _ x hj0).mono ?_
      rintro e x' ⟨v, rfl, hf, hb'⟩
      obtain ⟨A, c, rfl, r1, r2, r3⟩ := hf
      exact hk _ _ ⟨A, c, rfl⟩ ⟨A, c, rfl, r1, r2, fun b o t h => ⟨Nat.le_trans hb.size (r3 b o t h).1, (r3 b o t h).2⟩⟩ hb'
    rintro _ ⟨A, c, rfl⟩
    simp only [Act.put, List.setIfInBounds_toArray, List.set_cons_succ, List.set_cons_zero]
    intro x hbx hf
    simp only [List.drop_succ_cons, List.drop_zero]
    have hF : FltN x W1.heap.size (.agg #[.int .i64 (101 + j), .slice A 1 c]) (101 + j) [(i : Int)] := hf 5 _ _ rfl rfl
    clear hf
    have hB := hBr.out.below hbx
    have z0 := hB.cell 0
    have z1 := hB.cell 1
    have q0 := hB.frozen 0
    have q1 := hB.frozen 1
    have hB2 := (hB.set 0 (.int .i64 (101 + j))).set 1 (.slice A 1 c)
    have e0 := hB2.cell 0
    have e1 := hB2.cell 1
    simp only [List.getElem?_toArray, List.getElem?_cons_zero, List.getElem?_cons_succ, List.setIfInBounds_toArray, List.set_cons_succ, List.set_cons_zero] at e0 e1 z0 z1
    have E0 := Lib.hid e0
    have E1 := Lib.hid e1
    have HF := Lib.hid hF
    have hlt : w.heap.size < W1.heap.size := by have h1 := HB0.out.lt; have h2 := hb1.size; have h3 := hb2.size; omega
    have hbF : Below w.heap.size w ((x.setCell ⟨w.heap.size, 0, none⟩ (.int .i64 (101 + j))).setCell ⟨w.heap.size, 1, none⟩ (.slice A 1 c)) :=
      ((((hb0.trans (hb1.mono hb0.size)).trans (hb2.mono (Nat.le_trans hb0.size hb1.size))).trans (hbx.mono (Nat.le_of_lt hlt))).setCell (Nat.le_refl _) _).setCell (Nat.le_refl _) _
    have EF := Lib.hid hbF
    have HLT := Lib.hid hlt
    clear e0 e1 hB2 hB hF m0 m1 p0 hlt hbF
    go_wp2_with fail
    refine bodyPost_ret (v := .agg #[.int .i64 (101 + j), .slice A 1 c]) ?_ rfl ⟨_, rfl, ?_, EF.out⟩
    · have e0 := E0.out
      have e1 := E1.out
      generalize ((x.setCell ⟨w.heap.size, 0, none⟩ (.int .i64 (101 + j))).setCell ⟨w.heap.size, 1, none⟩ (.slice A 1 c)) = WF at *
      simp [results, Tryd.results52, go_sem, e0, e1]
    · obtain ⟨A', c', he, r1, r2, r3⟩ := HF.out
      have hlt := HLT.out
      simp only [Value.agg.injEq, Array.mk.injEq, List.cons.injEq, Value.slice.injEq, and_true, true_and] at he
      obtain ⟨rfl, _, rfl⟩ := he
      refine ⟨A, c, rfl, ?_, r2, fun b o t hAe => by
        obtain ⟨hge, cs, hcs⟩ := r3 b o t hAe
        exact ⟨by omega, cs, (hcs.other (by show b ≠ w.heap.size; omega) _).other (by show b ≠ w.heap.size; omega) _⟩⟩
      intro k hk
      obtain ⟨b, o, hAe, hbx2, hc⟩ := r1 k hk
      have hge := (r3 b o none hAe).1
      refine ⟨b, o, hAe, by simpa [World.setCell] using hbx2, fun q u hu => ?_⟩
      rw [World.cell?_setCell_other _ _ _ _ (by intro h; injection h with h; omega), World.cell?_setCell_other _ _ _ _ (by intro h; injection h with h; omega)]
      exact hc q u hu
end Go.Proofs.YtlhpflilpdceiaaDoor
