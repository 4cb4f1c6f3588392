/- The walk over package patoissee's fault where an At is around a sentinel; Fault; Same. What the package-level errors hold is a hypothesis. -/
import Derived.Test.YtpogngdddendiaaDoorHT
set_option linter.unusedVariables false
set_option linter.unusedSimpArgs false
namespace Go.Proofs.YtpogngdddendiaaDoor
open Go.RowKit

def fltT (B : Nat) (code : Int) (ats : List Int) : TT := ⟨fun v => ∃ A c, v = .agg #[.int .i64 code, .slice A ats.length c], ⟨_, none, 0, rfl⟩, fun v x => FltN x B v code ats, fun _ _ _ h hb => h.below hb⟩

set_option maxHeartbeats 2000000 in
theorem fault_at (L : List Addr) (w : World) (j : Nat) (a : Addr) (g : Nat) (i : Nat) (h : SenW w L) (hj : L[j]? = some a)
    (c0 : w.cell? ⟨g, 0, none⟩ = some (.int .i64 i)) (c1 : w.cell? ⟨g, 1, none⟩ = some (sentV a)) :
    Calls Tryd.prog 88 #[.iface 81 (.pointer (some ⟨g, 0, none⟩)), .int .i64 9] w (FltNRet (101 + j) [(i : Int)] w) := by
  obtain ⟨W0, hW0⟩ : ∃ W0, W0 = w.alloc (.cells #[.int .i64 0, .slice none 0 0] 57) := ⟨_, rfl⟩
  have hb0 : Below w.heap.size w W0 := by rw [hW0]; exact (Below.refl _ _).alloc (Nat.le_refl _) _
  have hB0 : Blk W0 w.heap.size 57 #[.int .i64 0, .slice none 0 0] := by rw [hW0]; exact Blk.new w _ _
  have HC := Lib.hid (fault_sent L W0 j a 8 (h.below hb0) hj (by decide) (by decide))
  have d0 := cell_keep hb0 c0
  have d1 := cell_keep hb0 c1
  have hA := assert_at
  have HB0 := Lib.hid hB0
  have hj0 : (101 + (j : Int)) ≠ 0 := by omega
  clear h hj c0 c1 hB0
  unfold sentV at *
  go_enter Tryd.func88, Tryd.ntmps88
  go_upto_region 8 with (fail)
  rw [← hW0]
  clear hW0
  go_upto_region 9 with (fail)
  refine HC.out.mono ?_
  rintro e w1 ⟨rfl, hb1⟩
  have f0 := cell_keep hb1 d0
  clear HC d0 d1
  unfold bareV
  obtain ⟨W1, hW1⟩ : ∃ W1, W1 = w1.alloc (.cells #[.int .i64 (101 + j), .slice none 0 0] 57) := ⟨_, rfl⟩
  have hb2 : Below w1.heap.size w1 W1 := by rw [hW1]; exact (Below.refl _ _).alloc (Nat.le_refl _) _
  have hB1 : Blk W1 w1.heap.size 57 #[.int .i64 (101 + j), .slice none 0 0] := by rw [hW1]; exact Blk.new w1 _ _
  have hBr := Lib.hid ((HB0.out.below hb1).below hb2)
  have p0 := cell_keep hb2 f0
  have m0 := hB1.cell 0
  have m1 := hB1.cell 1
  clear f0 hB1
  simp only [List.getElem?_toArray, List.getElem?_cons_zero, List.getElem?_cons_succ] at m0 m1
  go_upto_region 9 with (fail)
  rw [← hW1]
  clear hW1
  apply wp_region_relA 6 [eqT _, eqT _, eqT _, eqT _, eqT _, fltT W1.heap.size (101 + j) [(i : Int)]] (by kernel_rfl) (by kernel_rfl) (by kernel_rfl) rfl
  focus
    refine ⟨?_, ?_⟩
    focus
      unfold opGoal
      rw [if_pos (by kernel_rfl)]
      intro x hb hd K hk
      clear hd
      have l0 := cell_keep hb m0
      have l1 := cell_keep hb m1
      go_wp2_with fail
      exact hk _ _ rfl trivial (Below.refl _ _)
    rintro _ rfl
    simp only [Act.put, List.setIfInBounds_toArray, List.set_cons_succ, List.set_cons_zero]
    refine ⟨?_, ?_⟩
    focus
      unfold opGoal
      rw [if_pos (by kernel_rfl)]
      intro x hb hd K hk
      clear hd
      go_wp2_with fail
      exact hk _ _ rfl trivial (Below.refl _ _)
    rintro _ rfl
    simp only [Act.put, List.setIfInBounds_toArray, List.set_cons_succ, List.set_cons_zero]
    refine ⟨?_, ?_⟩
    focus
      unfold opGoal
      rw [if_pos (by kernel_rfl)]
      intro x hb hd K hk
      clear hd
      go_wp2_with fail
      exact hk _ _ rfl trivial (Below.refl _ _)
    rintro _ rfl
    simp only [Act.put, List.setIfInBounds_toArray, List.set_cons_succ, List.set_cons_zero]
    refine ⟨?_, ?_⟩
    focus
      unfold opGoal
      rw [if_pos (by kernel_rfl)]
      intro x hb hd K hk
      clear hd
      go_wp2_with fail
      exact hk _ _ rfl trivial (Below.refl _ _)
    rintro _ rfl
    simp only [Act.put, List.setIfInBounds_toArray, List.set_cons_succ, List.set_cons_zero]
    refine ⟨?_, ?_⟩
    focus
      unfold opGoal
      rw [if_pos (by kernel_rfl)]
      intro x hb hd K hk
      clear hd
      have l0 := cell_keep hb p0
      go_wp2_with fail
      exact hk _ _ rfl trivial (Below.refl _ _)
    rintro _ rfl
    simp only [Act.put, List.setIfInBounds_toArray, List.set_cons_succ, List.set_cons_zero]
    refine ⟨?_, ?_⟩
    focus
      unfold opGoal
      rw [if_pos (by kernel_rfl)]
      intro x hb hd K hk
      clear hd
      go_wp2_with fail
      refine (searound_any _ _ x hj0).mono ?_
      rintro e x' ⟨v, rfl, hf, hb'⟩
      obtain ⟨A, c, rfl, r1, r2, r3⟩ := hf
      exact hk _ _ ⟨A, c, rfl⟩ ⟨A, c, rfl, r1, r2, fun b o t h => ⟨Nat.le_trans hb.size (r3 b o t h).1, (r3 b o t h).2⟩⟩ hb'
    rintro _ ⟨A, c, rfl⟩
    simp only [Act.put, List.setIfInBounds_toArray, List.set_cons_succ, List.set_cons_zero]
    intro x hbx hf
    simp only [List.drop_succ_cons, List.drop_zero]
    have hF : FltN x W1.heap.size (.agg #[.int .i64 (101 + j), .slice A 1 c]) (101 + j) [(i : Int)] := hf 5 _ _ rfl rfl
    clear hf
    have hB := hBr.out.below hbx
    have z0 := hB.cell 0
    have z1 := hB.cell 1
    have q0 := hB.frozen 0
    have q1 := hB.frozen 1
    have hB2 := (hB.set 0 (.int .i64 (101 + j))).set 1 (.slice A 1 c)
    have e0 := hB2.cell 0
    have e1 := hB2.cell 1
    simp only [List.getElem?_toArray, List.getElem?_cons_zero, List.getElem?_cons_succ, List.setIfInBounds_toArray, List.set_cons_succ, List.set_cons_zero] at e0 e1 z0 z1
    have E0 := Lib.hid e0
    have E1 := Lib.hid e1
    have HF := Lib.hid hF
    have hlt : w.heap.size < W1.heap.size := by have h1 := HB0.out.lt; have h2 := hb1.size; have h3 := hb2.size; omega
    have hbF : Below w.heap.size w ((x.setCell ⟨w.heap.size, 0, none⟩ (.int .i64 (101 + j))).setCell ⟨w.heap.size, 1, none⟩ (.slice A 1 c)) :=
      ((((hb0.trans (hb1.mono hb0.size)).trans (hb2.mono (Nat.le_trans hb0.size hb1.size))).trans (hbx.mono (Nat.le_of_lt hlt))).setCell (Nat.le_refl _) _).setCell (Nat.le_refl _) _
    have EF := Lib.hid hbF
    have HLT := Lib.hid hlt
    clear e0 e1 hB2 hB hF m0 m1 p0 hlt hbF
    go_wp2_with fail
    refine bodyPost_ret (v := .agg #[.int .i64 (101 + j), .slice A 1 c]) ?_ rfl ⟨_, rfl, ?_, EF.out⟩
    · have e0 := E0.out
      have e1 := E1.out
      generalize ((x.setCell ⟨w.heap.size, 0, none⟩ (.int .i64 (101 + j))).setCell ⟨w.heap.size, 1, none⟩ (.slice A 1 c)) = WF at *
      simp [results, Tryd.results88, go_sem, e0, e1]
    · obtain ⟨A', c', he, r1, r2, r3⟩ := HF.out
      have hlt := HLT.out
      simp only [Value.agg.injEq, Array.mk.injEq, List.cons.injEq, Value.slice.injEq, and_true, true_and] at he
      obtain ⟨rfl, _, rfl⟩ := he
      refine ⟨A, c, rfl, ?_, r2, fun b o t hAe => by
        obtain ⟨hge, cs, hcs⟩ := r3 b o t hAe
        exact ⟨by omega, cs, (hcs.other (by show b ≠ w.heap.size; omega) _).other (by show b ≠ w.heap.size; omega) _⟩⟩
      intro k hk
      obtain ⟨b, o, hAe, hbx2, hc⟩ := r1 k hk
      have hge := (r3 b o none hAe).1
      refine ⟨b, o, hAe, by simpa [World.setCell] using hbx2, fun q u hu => ?_⟩
      rw [World.cell?_setCell_other _ _ _ _ (by intro h; injection h with h; omega), World.cell?_setCell_other _ _ _ _ (by intro h; injection h with h; omega)]
      exact hc q u hu
end Go.Proofs.YtpogngdddendiaaDoor

/- The walks over package patoissee's Fault and Same. What the package-level errors hold is a hypothesis. -/
set_option linter.unusedVariables false
set_option linter.unusedSimpArgs false
namespace Go.Proofs.YtpogngdddendiaaDoor
open Go.RowKit

theorem none_ret (w : World) : Calls Tryd.prog 53 #[] w (Ret w (bareV 0)) := by
  go_enter Tryd.func53, Tryd.ntmps53
  go_wp2_with fail
  go_returns
  exact ⟨rfl, (Below.refl _ _).alloc (Nat.le_refl _) _⟩


theorem fault_nil (w : World) : Calls Tryd.prog 54 #[.nilIface] w (FltNRet 0 [] w) := by
  obtain ⟨W0, hW0⟩ : ∃ W0, W0 = w.alloc (.cells #[.int .i64 0, .slice none 0 0] 57) := ⟨_, rfl⟩
  have hb0 : Below w.heap.size w W0 := by rw [hW0]; exact (Below.refl _ _).alloc (Nat.le_refl _) _
  have HB0 := Lib.hid (show Blk W0 w.heap.size 57 #[.int .i64 0, .slice none 0 0] by rw [hW0]; exact Blk.new w _ _)
  go_enter Tryd.func54, Tryd.ntmps54
  go_upto_region 2 with (fail)
  rw [← hW0]
  clear hW0
  go_wp2_with fail
  refine (none_ret W0).mono ?_
  rintro e w1 ⟨rfl, hb1⟩
  unfold bareV
  have hB := (HB0.out.below hb1)
  have z0 := hB.cell 0
  have z1 := hB.cell 1
  have q0 := hB.frozen 0
  have q1 := hB.frozen 1
  have hB2 := (hB.set 0 (.int .i64 0)).set 1 (.slice none 0 0)
  have e0 := hB2.cell 0
  have e1 := hB2.cell 1
  simp only [List.getElem?_toArray, List.getElem?_cons_zero, List.getElem?_cons_succ, List.setIfInBounds_toArray, List.set_cons_succ, List.set_cons_zero] at e0 e1 z0 z1
  have E0 := Lib.hid e0
  have E1 := Lib.hid e1
  have hbF : Below w.heap.size w ((w1.setCell ⟨w.heap.size, 0, none⟩ (.int .i64 0)).setCell ⟨w.heap.size, 1, none⟩ (.slice none 0 0)) :=
    ((hb0.trans (hb1.mono hb0.size)).setCell (Nat.le_refl _) _).setCell (Nat.le_refl _) _
  have EF := Lib.hid hbF
  clear hbF e0 e1 hB2 hB HB0
  go_wp2_with fail
  refine bodyPost_ret (v := .agg #[.int .i64 0, .slice none 0 0]) ?_ rfl ⟨_, rfl, ⟨none, 0, rfl, RdL.nil _ _ _ _, fun _ => rfl, fun b o t h => by cases h⟩, EF.out⟩
  have e0 := E0.out
  have e1 := E1.out
  generalize ((w1.setCell ⟨w.heap.size, 0, none⟩ (.int .i64 0)).setCell ⟨w.heap.size, 1, none⟩ (.slice none 0 0)) = WF at *
  simp [results, Tryd.results54, go_sem, e0, e1]

theorem fault_go (t : TypeId) (q : Addr) (code : Int) (ats : List Int) (w : World)
    (hf : ∀ W, Below w.heap.size w W → Calls Tryd.prog 88 #[.iface t (.pointer (some q)), .int .i64 9] W (FltNRet code ats W)) :
    Calls Tryd.prog 54 #[.iface t (.pointer (some q))] w (FltNRet code ats w) := by
  obtain ⟨W0, hW0⟩ : ∃ W0, W0 = w.alloc (.cells #[.int .i64 0, .slice none 0 0] 57) := ⟨_, rfl⟩
  have hb0 : Below w.heap.size w W0 := by rw [hW0]; exact (Below.refl _ _).alloc (Nat.le_refl _) _
  have hsz : W0.heap.size = w.heap.size + 1 := by rw [hW0, alloc_size]
  have HB0 := Lib.hid (show Blk W0 w.heap.size 57 #[.int .i64 0, .slice none 0 0] by rw [hW0]; exact Blk.new w _ _)
  have HC := Lib.hid (hf W0 hb0)
  clear hf
  go_enter Tryd.func54, Tryd.ntmps54
  go_upto_region 3 with (fail)
  rw [← hW0]
  clear hW0
  go_wp2_with fail
  refine HC.out.mono ?_
  rintro e w1 ⟨v, rfl, ⟨A, c, rfl, r1, r2, r3⟩, hb1⟩
  have R1 := Lib.hid r1
  have R2 := Lib.hid r2
  have R3 := Lib.hid r3
  have SZ := Lib.hid hsz
  obtain ⟨n, hn⟩ : ∃ n, n = ats.length := ⟨_, rfl⟩
  rw [← hn]
  have HN := Lib.hid hn
  clear r1 r2 r3 hsz HC hn
  have hB := (HB0.out.below hb1)
  have z0 := hB.cell 0
  have z1 := hB.cell 1
  have q0 := hB.frozen 0
  have q1 := hB.frozen 1
  have hB2 := (hB.set 0 (.int .i64 code)).set 1 (.slice A n c)
  have e0 := hB2.cell 0
  have e1 := hB2.cell 1
  simp only [List.getElem?_toArray, List.getElem?_cons_zero, List.getElem?_cons_succ, List.setIfInBounds_toArray, List.set_cons_succ, List.set_cons_zero] at e0 e1 z0 z1
  have E0 := Lib.hid e0
  have E1 := Lib.hid e1
  have hbF : Below w.heap.size w ((w1.setCell ⟨w.heap.size, 0, none⟩ (.int .i64 code)).setCell ⟨w.heap.size, 1, none⟩ (.slice A n c)) :=
    ((hb0.trans (hb1.mono hb0.size)).setCell (Nat.le_refl _) _).setCell (Nat.le_refl _) _
  have EF := Lib.hid hbF
  clear hbF e0 e1 hB2 hB HB0
  go_wp2_with fail
  refine bodyPost_ret (v := .agg #[.int .i64 code, .slice A n c]) ?_ rfl ⟨_, rfl, ⟨A, c, by rw [HN.out], ?_, R2.out, ?_⟩, EF.out⟩
  · have e0 := E0.out
    have e1 := E1.out
    generalize ((w1.setCell ⟨w.heap.size, 0, none⟩ (.int .i64 code)).setCell ⟨w.heap.size, 1, none⟩ (.slice A n c)) = WF at *
    simp [results, Tryd.results54, go_sem, e0, e1]
  · intro k hk
    obtain ⟨b, o, hAe, hbx2, hc⟩ := R1.out k hk
    have hge := (R3.out b o none hAe).1
    have hsz := SZ.out
    refine ⟨b, o, hAe, by simpa [World.setCell] using hbx2, fun q u hu => ?_⟩
    rw [World.cell?_setCell_other _ _ _ _ (by intro h; injection h with h; omega), World.cell?_setCell_other _ _ _ _ (by intro h; injection h with h; omega)]
    exact hc q u hu
  · intro b o t hAe
    obtain ⟨hge, cs, hcs⟩ := R3.out b o t hAe
    have hsz := SZ.out
    exact ⟨by omega, cs, (hcs.other (by show b ≠ w.heap.size; omega) _).other (by show b ≠ w.heap.size; omega) _⟩

/-- A value that is an error of that kind: nil, one of api's errors, or a place around one. -/
def ErrV (w : World) (L : List Addr) (v : Value) (code : Int) (ats : List Int) : Prop :=
  (v = .nilIface ∧ code = 0 ∧ ats = []) ∨ (∃ (j : Nat) (a : Addr), L[j]? = some a ∧ v = sentV a ∧ code = 101 + j ∧ ats = []) ∨
  (∃ (j : Nat) (a : Addr) (g i : Nat), L[j]? = some a ∧ v = .iface 81 (.pointer (some ⟨g, 0, none⟩)) ∧ w.cell? ⟨g, 0, none⟩ = some (.int .i64 i) ∧ w.cell? ⟨g, 1, none⟩ = some (sentV a) ∧ code = 101 + j ∧ ats = [(i : Int)])
theorem ErrV.below {w w' : World} {L : List Addr} {v : Value} {code : Int} {ats : List Int} (h : ErrV w L v code ats) (hb : Below w.heap.size w w') : ErrV w' L v code ats := by
  rcases h with h | h | ⟨j, a, g, i, h1, h2, h3, h4, h5⟩
  · exact .inl h
  · exact .inr (.inl h)
  · exact .inr (.inr ⟨j, a, g, i, h1, h2, cell_keep hb h3, cell_keep hb h4, h5⟩)

theorem seefault_any (L : List Addr) (w : World) (v : Value) (code : Int) (ats : List Int) (h : SenW w L) (hv : ErrV w L v code ats) : Calls Tryd.prog 54 #[v] w (FltNRet code ats w) := by
  rcases hv with ⟨rfl, rfl, rfl⟩ | ⟨j, a, hj, rfl, rfl, rfl⟩ | ⟨j, a, g, i, hj, rfl, c0, c1, rfl, rfl⟩
  · exact fault_nil w
  · exact fault_go _ _ _ _ w fun W hb => (fault_sent L W j a 9 (h.below hb) hj (by decide) (by decide)).mono fun e w' ⟨he, hb'⟩ => ⟨_, he, ⟨none, 0, rfl, RdL.nil _ _ _ _, fun _ => rfl, fun b o t h => by cases h⟩, hb'⟩
  · exact fault_go _ _ _ _ w fun W hb => fault_at L W j a g i (h.below hb) hj (cell_keep hb c0) (cell_keep hb c1)

theorem ErrV.ats_le {w : World} {L : List Addr} {v : Value} {code : Int} {ats : List Int} (h : ErrV w L v code ats) : ats.length ≤ 1 := by
  rcases h with ⟨_, _, rfl⟩ | ⟨_, _, _, _, _, rfl⟩ | ⟨_, _, _, _, _, _, _, _, _, rfl⟩
  all_goals simp

/-- A block just laid. -/
def blkT (t : TypeId) (cs : Array Value) : TT := ⟨fun v => ∃ g, v = .pointer (some ⟨g, 0, none⟩), ⟨_, 0, rfl⟩, fun v x => ∀ g, v = .pointer (some ⟨g, 0, none⟩) → Blk x g t cs, fun _ _ _ h hb g hg => (h g hg).below hb⟩

/-- Is the error that fault? -/
theorem seesame_any (L : List Addr) (w : World) (v u : Value) (code c2 : Int) (ats bts : List Int) (h : SenW w L) (hv : ErrV w L v code ats) (hu : FltV w u c2 bts) (hb2 : bts.length ≤ 1000) :
    Calls Tryd.prog 26 #[v, u] w (Ret w (.bool (code == c2 && SameI ats bts))) := by
  obtain ⟨B, cb, rfl, hrb, hB0⟩ := hu
  obtain ⟨nb, hnb⟩ : ∃ n, n = bts.length := ⟨_, rfl⟩
  rw [← hnb]
  obtain ⟨W0, hW0⟩ : ∃ W0, W0 = w.alloc (.cells #[.int .i64 c2, .slice B nb cb] 57) := ⟨_, rfl⟩
  have hb0 : Below w.heap.size w W0 := by rw [hW0]; exact (Below.refl _ _).alloc (Nat.le_refl _) _
  have HC := Lib.hid (fun (W : World) (hb : Below W0.heap.size W0 W) => seefault_any L W v code ats ((h.below hb0).below hb) ((hv.below hb0).below hb))
  have HQ := Lib.hid (fun (W : World) (x : Value) (hb : Below w.heap.size w W) (hx : FltV W x code ats) => samefault_any x (.agg #[.int .i64 c2, .slice B nb cb]) code c2 ats bts W hx ⟨B, cb, by rw [hnb], hrb.below hb, hB0⟩ (by have := hv.ats_le; omega) hb2)
  have HB0 := Lib.hid (show Blk W0 w.heap.size 57 #[.int .i64 c2, .slice B nb cb] by rw [hW0]; exact Blk.new w _ _)
  clear h hv hrb hB0 hnb
  go_enter Tryd.func26, Tryd.ntmps26
  go_upto_region 1 with (fail)
  rw [← hW0]
  clear hW0
  obtain ⟨na, hna⟩ : ∃ n, n = ats.length := ⟨_, rfl⟩
  have HN := Lib.hid hna
  go_wp2_with fail
  refine (HC.out W0 (Below.refl _ _)).mono ?_
  rintro e w1 ⟨v', rfl, ⟨A, c, rfl, r1, r2, r3⟩, hb1⟩
  rw [← hna]
  have R3 := Lib.hid r3
  have R1 := Lib.hid r1
  have R2 := Lib.hid r2
  have SZ := Lib.hid hb1.size
  clear hna HC r1 r2 r3
  obtain ⟨W1, hW1⟩ : ∃ W1, W1 = w1.alloc (.cells #[.int .i64 code, .slice A na c] 57) := ⟨_, rfl⟩
  have hb2 : Below w1.heap.size w1 W1 := by rw [hW1]; exact (Below.refl _ _).alloc (Nat.le_refl _) _
  have hBr := (HB0.out.below hb1).below hb2
  have b0 := hBr.cell 0
  have b1 := hBr.cell 1
  have hBn : Blk W1 w1.heap.size 57 #[.int .i64 code, .slice A na c] := by rw [hW1]; exact Blk.new w1 _ _
  have n0 := hBn.cell 0
  have n1 := hBn.cell 1
  simp only [List.getElem?_toArray, List.getElem?_cons_zero, List.getElem?_cons_succ] at b0 b1 n0 n1
  have hbb := (hb0.trans (hb1.mono hb0.size)).trans (hb2.mono (Nat.le_trans hb0.size hb1.size))
  have HFF := Lib.hid (HQ.out W1 (.agg #[.int .i64 code, .slice A na c]) hbb ⟨A, c, by rw [HN.out], R1.out.below hb2, R2.out⟩)
  clear hBr hBn
  go_upto_region 2 with (fail)
  rw [← hW1]
  clear hW1
  go_wp2_with fail
  refine HFF.out.mono ?_
  rintro e w3 ⟨rfl, hb3⟩
  replace hbb := hbb.trans (hb3.mono hbb.size)
  clear n0 n1 b0 b1
  go_wp2_with fail
  go_ret
  exact ⟨rfl, hbb⟩
end Go.Proofs.YtpogngdddendiaaDoor
