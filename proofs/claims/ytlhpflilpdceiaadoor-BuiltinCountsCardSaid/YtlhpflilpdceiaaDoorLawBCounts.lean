/- The walk over BuiltinCounts: for every two numbers the law returns true. The library's table and bound are hypotheses. -/
import Derived.Test.YtlhpflilpdceiaaDoorBuiltW5
import Derived.Test.YtlhpflilpdceiaaDoorLater
import Derived.Test.YtlhpflilpdceiaaDoorRel
set_option linter.unusedVariables false
set_option linter.unusedSimpArgs false
namespace Go.Proofs.YtlhpflilpdceiaaDoor
open Go.RowKit

theorem tm (a : Int) : -1000000000 < a.tmod 1000000000 ∧ a.tmod 1000000000 < 1000000000 := by
  have h1 := Int.tmod_lt_of_pos a (b := 1000000000) (by decide)
  have h2 := Int.tmod_lt_of_pos (-a) (b := 1000000000) (by decide)
  rw [Int.neg_tmod] at h2
  omega
theorem tm2 (z : Int) (h : -1000000000 < z) (h2 : z < 1000000000) : ∃ x : Nat, (z + 1000000000).tmod 1000000000 = (x : Int) ∧ x < 1000000000 := by
  have h1 := tm (z + 1000000000)
  have h3 := Int.tmod_nonneg 1000000000 (show 0 ≤ z + 1000000000 by omega)
  exact ⟨((z + 1000000000).tmod 1000000000).toNat, by omega, by omega⟩
theorem num_dec {x y : Nat} (hx : x < 1000000000) (hy : y < 1000000000) : numA [Lib.decDigits x, Lib.decDigits y] = (x, y, true) := by
  simp only [numA]
  rw [parse_dec hx, parse_dec hy]
  rfl
theorem eq_dec (x y : Nat) : eqA [Lib.decDigits x, Lib.decDigits y] = decide (x = y) := by
  simp only [eqA]
  rw [decide_eq_decide]
  exact ⟨fun h => by rw [← dec_val x, ← dec_val y, h], fun h => by rw [h]⟩
set_option maxRecDepth 100000 in
set_option maxHeartbeats 4000000 in
theorem bcounts_card (a b : Int) (m0 : Int) (w : World) (hl : LibW w m0) : Calls Tryd.prog 7 #[.int .i64 a, .int .i64 b] w (Ret w (.bool true)) := by
  have HF := Lib.hid (first8_any m0 w hl)
  have HL := Lib.hid hl
  clear hl
  obtain ⟨hza, hza'⟩ := tm a
  obtain ⟨hzb, hzb'⟩ := tm b
  obtain ⟨za, ez⟩ : ∃ z, a.tmod 1000000000 = z := ⟨_, rfl⟩
  obtain ⟨zb, ez'⟩ : ∃ z, b.tmod 1000000000 = z := ⟨_, rfl⟩
  rw [ez] at hza hza'
  rw [ez'] at hzb hzb'
  obtain ⟨x, ex, hx⟩ := tm2 za hza hza'
  obtain ⟨y, ey, hy⟩ := tm2 zb hzb hzb'
  have hnd := num_dec hx hy
  have hed := eq_dec x y
  have hud : (Lib.decDigits x).length ≤ 9 := dec_len 8 x hx
  have hvd : (Lib.decDigits y).length ≤ 9 := dec_len 8 y hy
  have hdd : (Lib.decDigits ((x + y) % 1000000000)).length ≤ 9 := dec_len 8 _ (Nat.mod_lt _ (by decide))
  have HNX := Lib.hid (fun (W : World) (hW : Below w.heap.size w W) => numberT_any x (by omega) W m0 (HL.out.below hW))
  have HNY := Lib.hid (fun (W : World) (hW : Below w.heap.size w W) => numberT_any y (by omega) W m0 (HL.out.below hW))
  have HNZ := Lib.hid (fun (W : World) (hW : Below w.heap.size w W) => numberT_any ((x + y) % 1000000000) (by omega) W m0 (HL.out.below hW))
  obtain ⟨u, hu⟩ : ∃ u, u = Lib.decDigits x := ⟨_, rfl⟩
  obtain ⟨v, hv⟩ : ∃ v, v = Lib.decDigits y := ⟨_, rfl⟩
  obtain ⟨d, hd⟩ : ∃ d, d = Lib.decDigits ((x + y) % 1000000000) := ⟨_, rfl⟩
  rw [← hu] at hnd hed hud HNX
  rw [← hv] at hnd hed hvd HNY
  rw [← hd] at HNZ hdd
  have hsz : ∀ t ∈ [u, v], t.length ≤ 1000000 := fun t ht => by
    simp only [List.mem_cons, List.not_mem_nil, or_false] at ht
    rcases ht with rfl | rfl <;> omega
  have e1 : addA [u, v] (oc0 []) = ⟨d ++ [10], [], 0, [], [], false⟩ := by
    unfold addA
    rw [hnd, hd]
    rfl
  obtain ⟨bl, hbl⟩ : ∃ bl, bl = decide (x < y) := ⟨_, rfl⟩
  obtain ⟨be, hbe⟩ : ∃ be, be = decide (x = y) := ⟨_, rfl⟩
  have e2 : lessA [u, v] = bl := by
    unfold lessA
    rw [hnd, hbl]
    rfl
  rw [← hbe] at hed
  have E1 := Lib.hid (fun (W : World) (hW : Below w.heap.size w W) => do_add [] (some ⟨W.heap.size, 0, none⟩) 2 [u, v] (W.alloc (.cells #[.string { data := u.toArray }, .string { data := v.toArray }] 9)) m0 ((HL.out.below hW).below (below1 _ _)) (rdl_lit W _ _ _ rfl) (Nat.le_refl 2) hsz)
  have E2 := Lib.hid (fun (W : World) (hW : Below w.heap.size w W) => do_less [] (some ⟨W.heap.size, 0, none⟩) 2 [u, v] (W.alloc (.cells #[.string { data := u.toArray }, .string { data := v.toArray }] 9)) (rdl_lit W _ _ _ rfl) (Nat.le_refl 2) hsz)
  have E3 := Lib.hid (fun (W : World) (hW : Below w.heap.size w W) => do_eq [] (some ⟨W.heap.size, 0, none⟩) 2 [u, v] (W.alloc (.cells #[.string { data := u.toArray }, .string { data := v.toArray }] 9)) (rdl_lit W _ _ _ rfl) (Nat.le_refl 2) hsz)
  simp only [e1] at E1
  simp only [e2] at E2
  simp only [hed] at E3
  simp only [DoRet, ocV, oc0] at E1 E2 E3
  have f1 : decide (x < y) = bl := hbl.symm
  have f2 : decide ((x : Int) < (y : Int)) = bl := by rw [hbl, decide_eq_decide]; omega
  have f3 : (x == y) = be := by rw [hbe]; rfl
  have f4 : ((x : Int) == (y : Int)) = be := by
    rw [hbe, Bool.eq_iff_iff, beq_iff_eq, decide_eq_true_eq]
    omega
  have hA : (⟨d.toArray⟩ ++ ⟨#[10]⟩ : ByteArray) = ⟨(d ++ [10]).toArray⟩ := by apply ByteArray.ext; simp
  have hds : (⟨d.toArray⟩ : ByteArray).size ≤ 9 := by show d.toArray.size ≤ 9; rw [List.size_toArray]; exact hdd
  have hmz : ((x : Int) + (y : Int)).tmod 1000000000 = (((x + y) % 1000000000 : Nat) : Int) := by
    rw [← Int.natCast_add]; rfl
  obtain ⟨z, hz⟩ : ∃ z, z = (x + y) % 1000000000 := ⟨_, rfl⟩
  rw [← hz] at HNZ hmz
  clear hnd hed hud hvd hsz e1 e2 hu hv hd hz hbl hbe
  cases bl with
  | true =>
    cases be with
    | true =>
      simp only [if_true, Bool.false_eq_true, if_false] at E2 E3
      go_enter Tryd.func7, Tryd.ntmps7
      go_wp2_with fail
      refine HF.out.mono ?_
      rintro e w1 ⟨rfl, hb⟩
      clear HF
      go_wp2_with fail
      refine (HNX.out _ hb).mono ?_
      rintro e p1 ⟨rfl, hx1⟩
      replace hb := hb.trans (hx1.mono hb.size)
      clear hx1
      go_wp2_with fail
      refine (HNY.out _ hb).mono ?_
      rintro e q1 ⟨rfl, hx1⟩
      replace hb := hb.trans (hx1.mono hb.size)
      clear hx1
      go_wp2_with fail
      refine (E1.out _ hb).mono ?_
      rintro e r1 ⟨rfl, hx1⟩
      have hx2 : Below q1.heap.size q1 r1 := (below1 q1 (.cells #[.string { data := u.toArray }, .string { data := v.toArray }] 9)).trans (hx1.mono (below1 q1 (.cells #[.string { data := u.toArray }, .string { data := v.toArray }] 9)).size)
      replace hb := hb.trans (hx2.mono hb.size)
      clear hx1 hx2
      go_upto_region 5 with (fail)
      have K1 := Lib.hid (Blk.new r1 56 #[.string { data := (d ++ [10]).toArray }, .string { data := #[] }, .int .i64 0, .string { data := #[] }, .string { data := #[] }, .bool false])
      have ha := below1 r1 (.cells #[.string { data := (d ++ [10]).toArray }, .string { data := #[] }, .int .i64 0, .string { data := #[] }, .string { data := #[] }, .bool false] 56)
      replace hb := hb.trans (ha.mono hb.size)
      obtain ⟨g1, hg⟩ : ∃ g, g = r1.heap.size := ⟨_, rfl⟩
      rw [← hg] at K1 ⊢
      clear ha hg
      generalize r1.alloc (.cells #[.string { data := (d ++ [10]).toArray }, .string { data := #[] }, .int .i64 0, .string { data := #[] }, .string { data := #[] }, .bool false] 56) = v1 at *
      go_wp2_with fail
      refine (HNX.out _ hb).mono ?_
      rintro e p2 ⟨rfl, hx1⟩
      replace hb := hb.trans (hx1.mono hb.size)
      replace K1 := Lib.hid (K1.out.below hx1)
      clear hx1
      go_wp2_with fail
      refine (HNY.out _ hb).mono ?_
      rintro e q2 ⟨rfl, hx1⟩
      replace hb := hb.trans (hx1.mono hb.size)
      replace K1 := Lib.hid (K1.out.below hx1)
      clear hx1
      go_wp2_with fail
      refine (E2.out _ hb).mono ?_
      rintro e r2 ⟨rfl, hx1⟩
      have hx2 : Below q2.heap.size q2 r2 := (below1 q2 (.cells #[.string { data := u.toArray }, .string { data := v.toArray }] 9)).trans (hx1.mono (below1 q2 (.cells #[.string { data := u.toArray }, .string { data := v.toArray }] 9)).size)
      replace hb := hb.trans (hx2.mono hb.size)
      replace K1 := Lib.hid (K1.out.below hx2)
      clear hx1 hx2
      go_upto_region 6 with (fail)
      have K2 := Lib.hid (Blk.new r2 56 #[.string { data := #[] }, .string { data := #[] }, .int .i64 0, .string { data := #[] }, .string { data := #[] }, .bool false])
      have ha := below1 r2 (.cells #[.string { data := #[] }, .string { data := #[] }, .int .i64 0, .string { data := #[] }, .string { data := #[] }, .bool false] 56)
      replace K1 := Lib.hid (K1.out.below ha)
      replace hb := hb.trans (ha.mono hb.size)
      obtain ⟨g2, hg⟩ : ∃ g, g = r2.heap.size := ⟨_, rfl⟩
      rw [← hg] at K2 ⊢
      clear ha hg
      generalize r2.alloc (.cells #[.string { data := #[] }, .string { data := #[] }, .int .i64 0, .string { data := #[] }, .string { data := #[] }, .bool false] 56) = v2 at *
      go_wp2_with fail
      refine (HNX.out _ hb).mono ?_
      rintro e p3 ⟨rfl, hx1⟩
      replace hb := hb.trans (hx1.mono hb.size)
      replace K1 := Lib.hid (K1.out.below hx1)
      replace K2 := Lib.hid (K2.out.below hx1)
      clear hx1
      go_wp2_with fail
      refine (HNY.out _ hb).mono ?_
      rintro e q3 ⟨rfl, hx1⟩
      replace hb := hb.trans (hx1.mono hb.size)
      replace K1 := Lib.hid (K1.out.below hx1)
      replace K2 := Lib.hid (K2.out.below hx1)
      clear hx1
      go_wp2_with fail
      refine (E3.out _ hb).mono ?_
      rintro e r3 ⟨rfl, hx1⟩
      have hx2 : Below q3.heap.size q3 r3 := (below1 q3 (.cells #[.string { data := u.toArray }, .string { data := v.toArray }] 9)).trans (hx1.mono (below1 q3 (.cells #[.string { data := u.toArray }, .string { data := v.toArray }] 9)).size)
      replace hb := hb.trans (hx2.mono hb.size)
      replace K1 := Lib.hid (K1.out.below hx2)
      replace K2 := Lib.hid (K2.out.below hx2)
      clear hx1 hx2
      go_upto_region 7 with (fail)
      have K3 := Lib.hid (Blk.new r3 56 #[.string { data := #[] }, .string { data := #[] }, .int .i64 0, .string { data := #[] }, .string { data := #[] }, .bool false])
      have ha := below1 r3 (.cells #[.string { data := #[] }, .string { data := #[] }, .int .i64 0, .string { data := #[] }, .string { data := #[] }, .bool false] 56)
      replace K1 := Lib.hid (K1.out.below ha)
      replace K2 := Lib.hid (K2.out.below ha)
      replace hb := hb.trans (ha.mono hb.size)
      obtain ⟨g3, hg⟩ : ∃ g, g = r3.heap.size := ⟨_, rfl⟩
      rw [← hg] at K3 ⊢
      clear ha hg
      generalize r3.alloc (.cells #[.string { data := #[] }, .string { data := #[] }, .int .i64 0, .string { data := #[] }, .string { data := #[] }, .bool false] 56) = v3 at *
      have d10 := K1.out.cell 0
      have d22 := K2.out.cell 2
      have d32 := K3.out.cell 2
      simp only [List.getElem?_toArray, List.getElem?_cons_zero, List.getElem?_cons_succ] at d10 d22 d32
      have l0 := Later.cell d10
      have l1 := Later.cell d22
      have l2 := Later.cell d32
      have HBV := Lib.hid hb
      have HNV := Lib.hid (fun (W : World) (hW : Below v3.heap.size v3 W) => HNZ.out W (HBV.out.trans (hW.mono HBV.out.size)))
      clear K1 K2 K3 d10 d22 d32 HNX HNY HNZ E1 E2 E3 hb
      refine wp_region_eq (by kernel_rfl) (by kernel_rfl) ?_
      apply EqGo.run
      focus
        kernel_rfl
      focus
        intro x K hK
        go_wp2_with fail
        first | exact hK x (Below.refl _ _) | exact Below.refl _ _
      simp only [Act.put, List.setIfInBounds_toArray, List.set_cons_succ, List.set_cons_zero]
      apply EqGo.run
      focus
        kernel_rfl
      focus
        intro x K hK
        go_wp2_with fail
        first | exact hK x (Below.refl _ _) | exact Below.refl _ _
      simp only [Act.put, List.setIfInBounds_toArray, List.set_cons_succ, List.set_cons_zero]
      apply EqGo.run
      focus
        kernel_rfl
      focus
        intro x K hK
        go_wp2_with fail
        first | exact hK x (Below.refl _ _) | exact Below.refl _ _
      simp only [Act.put, List.setIfInBounds_toArray, List.set_cons_succ, List.set_cons_zero]
      apply EqGo.run
      focus
        kernel_rfl
      focus
        intro x K hK
        go_wp2_with fail
        first | exact hK x (Below.refl _ _) | exact Below.refl _ _
      simp only [Act.put, List.setIfInBounds_toArray, List.set_cons_succ, List.set_cons_zero]
      apply EqGo.run
      focus
        kernel_rfl
      focus
        intro x K hK
        go_wp2_with fail
        first | exact hK x (Below.refl _ _) | exact Below.refl _ _
      simp only [Act.put, List.setIfInBounds_toArray, List.set_cons_succ, List.set_cons_zero]
      apply EqGo.run
      focus
        kernel_rfl
      focus
        intro x K hK
        go_wp2_with fail
        first | exact hK x (Below.refl _ _) | exact Below.refl _ _
      simp only [Act.put, List.setIfInBounds_toArray, List.set_cons_succ, List.set_cons_zero]
      apply EqGo.run
      focus
        kernel_rfl
      focus
        intro x K hK
        go_wp2_with fail
        first | exact hK x (Below.refl _ _) | exact Below.refl _ _
      simp only [Act.put, List.setIfInBounds_toArray, List.set_cons_succ, List.set_cons_zero]
      apply EqGo.run
      focus
        kernel_rfl
      focus
        intro x K hK
        go_wp2_with fail
        first | exact hK x (Below.refl _ _) | exact Below.refl _ _
      simp only [Act.put, List.setIfInBounds_toArray, List.set_cons_succ, List.set_cons_zero]
      apply EqGo.run
      focus
        kernel_rfl
      focus
        intro x K hK
        go_wp2_with fail
        refine (Hid.out HNV x.val x.below).mono ?_
        rintro e x' ⟨rfl, hb'⟩
        exact hK ⟨x', x.below.trans (hb'.mono x.below.size)⟩ hb'
      simp only [Act.put, List.setIfInBounds_toArray, List.set_cons_succ, List.set_cons_zero]
      apply EqGo.run
      focus
        kernel_rfl
      focus
        intro x K hK
        go_wp2_with fail
        first | exact hK x (Below.refl _ _) | exact Below.refl _ _
      simp only [Act.put, List.setIfInBounds_toArray, List.set_cons_succ, List.set_cons_zero]
      apply EqGo.run
      focus
        kernel_rfl
      focus
        intro x K hK
        go_wp2_with fail
        first | exact hK x (Below.refl _ _) | exact Below.refl _ _
      simp only [Act.put, List.setIfInBounds_toArray, List.set_cons_succ, List.set_cons_zero]
      apply EqGo.run
      focus
        kernel_rfl
      focus
        intro x K hK
        go_wp2_with fail
        first | exact hK x (Below.refl _ _) | exact Below.refl _ _
      simp only [Act.put, List.setIfInBounds_toArray, List.set_cons_succ, List.set_cons_zero]
      apply EqGo.run
      focus
        kernel_rfl
      focus
        intro x K hK
        go_wp2_with fail
        first | exact hK x (Below.refl _ _) | exact Below.refl _ _
      simp only [Act.put, List.setIfInBounds_toArray, List.set_cons_succ, List.set_cons_zero]
      apply EqGo.run
      focus
        kernel_rfl
      focus
        intro x K hK
        go_wp2_with fail
        first | exact hK x (Below.refl _ _) | exact Below.refl _ _
      simp only [Act.put, List.setIfInBounds_toArray, List.set_cons_succ, List.set_cons_zero]
      apply EqGo.run
      focus
        kernel_rfl
      focus
        intro x K hK
        go_wp2_with fail
        first | exact hK x (Below.refl _ _) | exact Below.refl _ _
      simp only [Act.put, List.setIfInBounds_toArray, List.set_cons_succ, List.set_cons_zero]
      apply EqGo.run
      focus
        kernel_rfl
      focus
        intro x K hK
        go_wp2_with fail
        first | exact hK x (Below.refl _ _) | exact Below.refl _ _
      simp only [Act.put, List.setIfInBounds_toArray, List.set_cons_succ, List.set_cons_zero]
      apply EqGo.run
      focus
        kernel_rfl
      focus
        intro x K hK
        go_wp2_with fail
        first | exact hK x (Below.refl _ _) | exact Below.refl _ _
      simp only [Act.put, List.setIfInBounds_toArray, List.set_cons_succ, List.set_cons_zero]
      apply EqGo.run
      focus
        kernel_rfl
      focus
        intro x K hK
        go_wp2_with fail
        first | exact hK x (Below.refl _ _) | exact Below.refl _ _
      simp only [Act.put, List.setIfInBounds_toArray, List.set_cons_succ, List.set_cons_zero]
      apply EqGo.run
      focus
        kernel_rfl
      focus
        intro x K hK
        go_wp2_with fail
        first | exact hK x (Below.refl _ _) | exact Below.refl _ _
      simp only [Act.put, List.setIfInBounds_toArray, List.set_cons_succ, List.set_cons_zero]
      apply EqGo.run
      focus
        kernel_rfl
      focus
        intro x K hK
        go_wp2_with fail
        first | exact hK x (Below.refl _ _) | exact Below.refl _ _
      simp only [Act.put, List.setIfInBounds_toArray, List.set_cons_succ, List.set_cons_zero]
      apply EqGo.run
      focus
        kernel_rfl
      focus
        intro x K hK
        go_wp2_with fail
        first | exact hK x (Below.refl _ _) | exact Below.refl _ _
      simp only [Act.put, List.setIfInBounds_toArray, List.set_cons_succ, List.set_cons_zero]
      apply EqGo.run
      focus
        kernel_rfl
      focus
        intro x K hK
        go_wp2_with fail
        first | exact hK x (Below.refl _ _) | exact Below.refl _ _
      simp only [Act.put, List.setIfInBounds_toArray, List.set_cons_succ, List.set_cons_zero]
      apply EqGo.run
      focus
        kernel_rfl
      focus
        intro x K hK
        go_wp2_with fail
        first | exact hK x (Below.refl _ _) | exact Below.refl _ _
      simp only [Act.put, List.setIfInBounds_toArray, List.set_cons_succ, List.set_cons_zero]
      apply EqGo.run
      focus
        kernel_rfl
      focus
        intro x K hK
        go_wp2_with fail
        first | exact hK x (Below.refl _ _) | exact Below.refl _ _
      simp only [Act.put, List.setIfInBounds_toArray, List.set_cons_succ, List.set_cons_zero]
      apply EqGo.run
      focus
        kernel_rfl
      focus
        intro x K hK
        go_wp2_with fail
        first | exact hK x (Below.refl _ _) | exact Below.refl _ _
      simp only [Act.put, List.setIfInBounds_toArray, List.set_cons_succ, List.set_cons_zero]
      apply EqGo.run
      focus
        kernel_rfl
      focus
        intro x K hK
        go_wp2_with fail
        first | exact hK x (Below.refl _ _) | exact Below.refl _ _
      simp only [Act.put, List.setIfInBounds_toArray, List.set_cons_succ, List.set_cons_zero]
      apply EqGo.run
      focus
        kernel_rfl
      focus
        intro x K hK
        go_wp2_with fail
        first | exact hK x (Below.refl _ _) | exact Below.refl _ _
      simp only [Act.put, List.setIfInBounds_toArray, List.set_cons_succ, List.set_cons_zero]
      apply EqGo.run
      focus
        kernel_rfl
      focus
        intro x K hK
        go_wp2_with fail
        first | exact hK x (Below.refl _ _) | exact Below.refl _ _
      simp only [Act.put, List.setIfInBounds_toArray, List.set_cons_succ, List.set_cons_zero]
      apply EqGo.run
      focus
        kernel_rfl
      focus
        intro x K hK
        go_wp2_with fail
        first | exact hK x (Below.refl _ _) | exact Below.refl _ _
      simp only [Act.put, List.setIfInBounds_toArray, List.set_cons_succ, List.set_cons_zero]
      apply EqGo.run
      focus
        kernel_rfl
      focus
        intro x K hK
        go_wp2_with fail
        first | exact hK x (Below.refl _ _) | exact Below.refl _ _
      simp only [Act.put, List.setIfInBounds_toArray, List.set_cons_succ, List.set_cons_zero]
      apply EqGo.run
      focus
        kernel_rfl
      focus
        intro x K hK
        go_wp2_with fail
        first | exact hK x (Below.refl _ _) | exact Below.refl _ _
      simp only [Act.put, List.setIfInBounds_toArray, List.set_cons_succ, List.set_cons_zero]
      intro x0
      have HX := Lib.hid x0.below
      clear l0 l1 l2
      generalize x0.val = wf at *
      clear x0
      go_wp2_with fail
      go_ret
      exact ⟨rfl, HBV.out.trans (HX.out.mono HBV.out.size)⟩
    | false =>
      simp only [if_true, Bool.false_eq_true, if_false] at E2 E3
      go_enter Tryd.func7, Tryd.ntmps7
      go_wp2_with fail
      refine HF.out.mono ?_
      rintro e w1 ⟨rfl, hb⟩
      clear HF
      go_wp2_with fail
      refine (HNX.out _ hb).mono ?_
      rintro e p1 ⟨rfl, hx1⟩
      replace hb := hb.trans (hx1.mono hb.size)
      clear hx1
      go_wp2_with fail
      refine (HNY.out _ hb).mono ?_
      rintro e q1 ⟨rfl, hx1⟩
      replace hb := hb.trans (hx1.mono hb.size)
      clear hx1
      go_wp2_with fail
      refine (E1.out _ hb).mono ?_
      rintro e r1 ⟨rfl, hx1⟩
      have hx2 : Below q1.heap.size q1 r1 := (below1 q1 (.cells #[.string { data := u.toArray }, .string { data := v.toArray }] 9)).trans (hx1.mono (below1 q1 (.cells #[.string { data := u.toArray }, .string { data := v.toArray }] 9)).size)
      replace hb := hb.trans (hx2.mono hb.size)
      clear hx1 hx2
      go_upto_region 5 with (fail)
      have K1 := Lib.hid (Blk.new r1 56 #[.string { data := (d ++ [10]).toArray }, .string { data := #[] }, .int .i64 0, .string { data := #[] }, .string { data := #[] }, .bool false])
      have ha := below1 r1 (.cells #[.string { data := (d ++ [10]).toArray }, .string { data := #[] }, .int .i64 0, .string { data := #[] }, .string { data := #[] }, .bool false] 56)
      replace hb := hb.trans (ha.mono hb.size)
      obtain ⟨g1, hg⟩ : ∃ g, g = r1.heap.size := ⟨_, rfl⟩
      rw [← hg] at K1 ⊢
      clear ha hg
      generalize r1.alloc (.cells #[.string { data := (d ++ [10]).toArray }, .string { data := #[] }, .int .i64 0, .string { data := #[] }, .string { data := #[] }, .bool false] 56) = v1 at *
      go_wp2_with fail
      refine (HNX.out _ hb).mono ?_
      rintro e p2 ⟨rfl, hx1⟩
      replace hb := hb.trans (hx1.mono hb.size)
      replace K1 := Lib.hid (K1.out.below hx1)
      clear hx1
      go_wp2_with fail
      refine (HNY.out _ hb).mono ?_
      rintro e q2 ⟨rfl, hx1⟩
      replace hb := hb.trans (hx1.mono hb.size)
      replace K1 := Lib.hid (K1.out.below hx1)
      clear hx1
      go_wp2_with fail
      refine (E2.out _ hb).mono ?_
      rintro e r2 ⟨rfl, hx1⟩
      have hx2 : Below q2.heap.size q2 r2 := (below1 q2 (.cells #[.string { data := u.toArray }, .string { data := v.toArray }] 9)).trans (hx1.mono (below1 q2 (.cells #[.string { data := u.toArray }, .string { data := v.toArray }] 9)).size)
      replace hb := hb.trans (hx2.mono hb.size)
      replace K1 := Lib.hid (K1.out.below hx2)
      clear hx1 hx2
      go_upto_region 6 with (fail)
      have K2 := Lib.hid (Blk.new r2 56 #[.string { data := #[] }, .string { data := #[] }, .int .i64 0, .string { data := #[] }, .string { data := #[] }, .bool false])
      have ha := below1 r2 (.cells #[.string { data := #[] }, .string { data := #[] }, .int .i64 0, .string { data := #[] }, .string { data := #[] }, .bool false] 56)
      replace K1 := Lib.hid (K1.out.below ha)
      replace hb := hb.trans (ha.mono hb.size)
      obtain ⟨g2, hg⟩ : ∃ g, g = r2.heap.size := ⟨_, rfl⟩
      rw [← hg] at K2 ⊢
      clear ha hg
      generalize r2.alloc (.cells #[.string { data := #[] }, .string { data := #[] }, .int .i64 0, .string { data := #[] }, .string { data := #[] }, .bool false] 56) = v2 at *
      go_wp2_with fail
      refine (HNX.out _ hb).mono ?_
      rintro e p3 ⟨rfl, hx1⟩
      replace hb := hb.trans (hx1.mono hb.size)
      replace K1 := Lib.hid (K1.out.below hx1)
      replace K2 := Lib.hid (K2.out.below hx1)
      clear hx1
      go_wp2_with fail
      refine (HNY.out _ hb).mono ?_
      rintro e q3 ⟨rfl, hx1⟩
      replace hb := hb.trans (hx1.mono hb.size)
      replace K1 := Lib.hid (K1.out.below hx1)
      replace K2 := Lib.hid (K2.out.below hx1)
      clear hx1
      go_wp2_with fail
      refine (E3.out _ hb).mono ?_
      rintro e r3 ⟨rfl, hx1⟩
      have hx2 : Below q3.heap.size q3 r3 := (below1 q3 (.cells #[.string { data := u.toArray }, .string { data := v.toArray }] 9)).trans (hx1.mono (below1 q3 (.cells #[.string { data := u.toArray }, .string { data := v.toArray }] 9)).size)
      replace hb := hb.trans (hx2.mono hb.size)
      replace K1 := Lib.hid (K1.out.below hx2)
      replace K2 := Lib.hid (K2.out.below hx2)
      clear hx1 hx2
      go_upto_region 7 with (fail)
      have K3 := Lib.hid (Blk.new r3 56 #[.string { data := #[] }, .string { data := #[] }, .int .i64 1, .string { data := #[] }, .string { data := #[] }, .bool false])
      have ha := below1 r3 (.cells #[.string { data := #[] }, .string { data := #[] }, .int .i64 1, .string { data := #[] }, .string { data := #[] }, .bool false] 56)
      replace K1 := Lib.hid (K1.out.below ha)
      replace K2 := Lib.hid (K2.out.below ha)
      replace hb := hb.trans (ha.mono hb.size)
      obtain ⟨g3, hg⟩ : ∃ g, g = r3.heap.size := ⟨_, rfl⟩
      rw [← hg] at K3 ⊢
      clear ha hg
      generalize r3.alloc (.cells #[.string { data := #[] }, .string { data := #[] }, .int .i64 1, .string { data := #[] }, .string { data := #[] }, .bool false] 56) = v3 at *
      have d10 := K1.out.cell 0
      have d22 := K2.out.cell 2
      have d32 := K3.out.cell 2
      simp only [List.getElem?_toArray, List.getElem?_cons_zero, List.getElem?_cons_succ] at d10 d22 d32
      have l0 := Later.cell d10
      have l1 := Later.cell d22
      have l2 := Later.cell d32
      have HBV := Lib.hid hb
      have HNV := Lib.hid (fun (W : World) (hW : Below v3.heap.size v3 W) => HNZ.out W (HBV.out.trans (hW.mono HBV.out.size)))
      clear K1 K2 K3 d10 d22 d32 HNX HNY HNZ E1 E2 E3 hb
      refine wp_region_eq (by kernel_rfl) (by kernel_rfl) ?_
      apply EqGo.run
      focus
        kernel_rfl
      focus
        intro x K hK
        go_wp2_with fail
        first | exact hK x (Below.refl _ _) | exact Below.refl _ _
      simp only [Act.put, List.setIfInBounds_toArray, List.set_cons_succ, List.set_cons_zero]
      apply EqGo.run
      focus
        kernel_rfl
      focus
        intro x K hK
        go_wp2_with fail
        first | exact hK x (Below.refl _ _) | exact Below.refl _ _
      simp only [Act.put, List.setIfInBounds_toArray, List.set_cons_succ, List.set_cons_zero]
      apply EqGo.run
      focus
        kernel_rfl
      focus
        intro x K hK
        go_wp2_with fail
        first | exact hK x (Below.refl _ _) | exact Below.refl _ _
      simp only [Act.put, List.setIfInBounds_toArray, List.set_cons_succ, List.set_cons_zero]
      apply EqGo.run
      focus
        kernel_rfl
      focus
        intro x K hK
        go_wp2_with fail
        first | exact hK x (Below.refl _ _) | exact Below.refl _ _
      simp only [Act.put, List.setIfInBounds_toArray, List.set_cons_succ, List.set_cons_zero]
      apply EqGo.run
      focus
        kernel_rfl
      focus
        intro x K hK
        go_wp2_with fail
        first | exact hK x (Below.refl _ _) | exact Below.refl _ _
      simp only [Act.put, List.setIfInBounds_toArray, List.set_cons_succ, List.set_cons_zero]
      apply EqGo.run
      focus
        kernel_rfl
      focus
        intro x K hK
        go_wp2_with fail
        first | exact hK x (Below.refl _ _) | exact Below.refl _ _
      simp only [Act.put, List.setIfInBounds_toArray, List.set_cons_succ, List.set_cons_zero]
      apply EqGo.run
      focus
        kernel_rfl
      focus
        intro x K hK
        go_wp2_with fail
        first | exact hK x (Below.refl _ _) | exact Below.refl _ _
      simp only [Act.put, List.setIfInBounds_toArray, List.set_cons_succ, List.set_cons_zero]
      apply EqGo.run
      focus
        kernel_rfl
      focus
        intro x K hK
        go_wp2_with fail
        first | exact hK x (Below.refl _ _) | exact Below.refl _ _
      simp only [Act.put, List.setIfInBounds_toArray, List.set_cons_succ, List.set_cons_zero]
      apply EqGo.run
      focus
        kernel_rfl
      focus
        intro x K hK
        go_wp2_with fail
        refine (Hid.out HNV x.val x.below).mono ?_
        rintro e x' ⟨rfl, hb'⟩
        exact hK ⟨x', x.below.trans (hb'.mono x.below.size)⟩ hb'
      simp only [Act.put, List.setIfInBounds_toArray, List.set_cons_succ, List.set_cons_zero]
      apply EqGo.run
      focus
        kernel_rfl
      focus
        intro x K hK
        go_wp2_with fail
        first | exact hK x (Below.refl _ _) | exact Below.refl _ _
      simp only [Act.put, List.setIfInBounds_toArray, List.set_cons_succ, List.set_cons_zero]
      apply EqGo.run
      focus
        kernel_rfl
      focus
        intro x K hK
        go_wp2_with fail
        first | exact hK x (Below.refl _ _) | exact Below.refl _ _
      simp only [Act.put, List.setIfInBounds_toArray, List.set_cons_succ, List.set_cons_zero]
      apply EqGo.run
      focus
        kernel_rfl
      focus
        intro x K hK
        go_wp2_with fail
        first | exact hK x (Below.refl _ _) | exact Below.refl _ _
      simp only [Act.put, List.setIfInBounds_toArray, List.set_cons_succ, List.set_cons_zero]
      apply EqGo.run
      focus
        kernel_rfl
      focus
        intro x K hK
        go_wp2_with fail
        first | exact hK x (Below.refl _ _) | exact Below.refl _ _
      simp only [Act.put, List.setIfInBounds_toArray, List.set_cons_succ, List.set_cons_zero]
      apply EqGo.run
      focus
        kernel_rfl
      focus
        intro x K hK
        go_wp2_with fail
        first | exact hK x (Below.refl _ _) | exact Below.refl _ _
      simp only [Act.put, List.setIfInBounds_toArray, List.set_cons_succ, List.set_cons_zero]
      apply EqGo.run
      focus
        kernel_rfl
      focus
        intro x K hK
        go_wp2_with fail
        first | exact hK x (Below.refl _ _) | exact Below.refl _ _
      simp only [Act.put, List.setIfInBounds_toArray, List.set_cons_succ, List.set_cons_zero]
      apply EqGo.run
      focus
        kernel_rfl
      focus
        intro x K hK
        go_wp2_with fail
        first | exact hK x (Below.refl _ _) | exact Below.refl _ _
      simp only [Act.put, List.setIfInBounds_toArray, List.set_cons_succ, List.set_cons_zero]
      apply EqGo.run
      focus
        kernel_rfl
      focus
        intro x K hK
        go_wp2_with fail
        first | exact hK x (Below.refl _ _) | exact Below.refl _ _
      simp only [Act.put, List.setIfInBounds_toArray, List.set_cons_succ, List.set_cons_zero]
      apply EqGo.run
      focus
        kernel_rfl
      focus
        intro x K hK
        go_wp2_with fail
        first | exact hK x (Below.refl _ _) | exact Below.refl _ _
      simp only [Act.put, List.setIfInBounds_toArray, List.set_cons_succ, List.set_cons_zero]
      apply EqGo.run
      focus
        kernel_rfl
      focus
        intro x K hK
        go_wp2_with fail
        first | exact hK x (Below.refl _ _) | exact Below.refl _ _
      simp only [Act.put, List.setIfInBounds_toArray, List.set_cons_succ, List.set_cons_zero]
      apply EqGo.run
      focus
        kernel_rfl
      focus
        intro x K hK
        go_wp2_with fail
        first | exact hK x (Below.refl _ _) | exact Below.refl _ _
      simp only [Act.put, List.setIfInBounds_toArray, List.set_cons_succ, List.set_cons_zero]
      apply EqGo.run
      focus
        kernel_rfl
      focus
        intro x K hK
        go_wp2_with fail
        first | exact hK x (Below.refl _ _) | exact Below.refl _ _
      simp only [Act.put, List.setIfInBounds_toArray, List.set_cons_succ, List.set_cons_zero]
      apply EqGo.run
      focus
        kernel_rfl
      focus
        intro x K hK
        go_wp2_with fail
        first | exact hK x (Below.refl _ _) | exact Below.refl _ _
      simp only [Act.put, List.setIfInBounds_toArray, List.set_cons_succ, List.set_cons_zero]
      apply EqGo.run
      focus
        kernel_rfl
      focus
        intro x K hK
        go_wp2_with fail
        first | exact hK x (Below.refl _ _) | exact Below.refl _ _
      simp only [Act.put, List.setIfInBounds_toArray, List.set_cons_succ, List.set_cons_zero]
      apply EqGo.run
      focus
        kernel_rfl
      focus
        intro x K hK
        go_wp2_with fail
        first | exact hK x (Below.refl _ _) | exact Below.refl _ _
      simp only [Act.put, List.setIfInBounds_toArray, List.set_cons_succ, List.set_cons_zero]
      apply EqGo.run
      focus
        kernel_rfl
      focus
        intro x K hK
        go_wp2_with fail
        first | exact hK x (Below.refl _ _) | exact Below.refl _ _
      simp only [Act.put, List.setIfInBounds_toArray, List.set_cons_succ, List.set_cons_zero]
      apply EqGo.run
      focus
        kernel_rfl
      focus
        intro x K hK
        go_wp2_with fail
        first | exact hK x (Below.refl _ _) | exact Below.refl _ _
      simp only [Act.put, List.setIfInBounds_toArray, List.set_cons_succ, List.set_cons_zero]
      apply EqGo.run
      focus
        kernel_rfl
      focus
        intro x K hK
        go_wp2_with fail
        first | exact hK x (Below.refl _ _) | exact Below.refl _ _
      simp only [Act.put, List.setIfInBounds_toArray, List.set_cons_succ, List.set_cons_zero]
      apply EqGo.run
      focus
        kernel_rfl
      focus
        intro x K hK
        go_wp2_with fail
        first | exact hK x (Below.refl _ _) | exact Below.refl _ _
      simp only [Act.put, List.setIfInBounds_toArray, List.set_cons_succ, List.set_cons_zero]
      apply EqGo.run
      focus
        kernel_rfl
      focus
        intro x K hK
        go_wp2_with fail
        first | exact hK x (Below.refl _ _) | exact Below.refl _ _
      simp only [Act.put, List.setIfInBounds_toArray, List.set_cons_succ, List.set_cons_zero]
      apply EqGo.run
      focus
        kernel_rfl
      focus
        intro x K hK
        go_wp2_with fail
        first | exact hK x (Below.refl _ _) | exact Below.refl _ _
      simp only [Act.put, List.setIfInBounds_toArray, List.set_cons_succ, List.set_cons_zero]
      apply EqGo.run
      focus
        kernel_rfl
      focus
        intro x K hK
        go_wp2_with fail
        first | exact hK x (Below.refl _ _) | exact Below.refl _ _
      simp only [Act.put, List.setIfInBounds_toArray, List.set_cons_succ, List.set_cons_zero]
      intro x0
      have HX := Lib.hid x0.below
      clear l0 l1 l2
      generalize x0.val = wf at *
      clear x0
      go_wp2_with fail
      go_ret
      exact ⟨rfl, HBV.out.trans (HX.out.mono HBV.out.size)⟩
  | false =>
    cases be with
    | true =>
      simp only [if_true, Bool.false_eq_true, if_false] at E2 E3
      go_enter Tryd.func7, Tryd.ntmps7
      go_wp2_with fail
      refine HF.out.mono ?_
      rintro e w1 ⟨rfl, hb⟩
      clear HF
      go_wp2_with fail
      refine (HNX.out _ hb).mono ?_
      rintro e p1 ⟨rfl, hx1⟩
      replace hb := hb.trans (hx1.mono hb.size)
      clear hx1
      go_wp2_with fail
      refine (HNY.out _ hb).mono ?_
      rintro e q1 ⟨rfl, hx1⟩
      replace hb := hb.trans (hx1.mono hb.size)
      clear hx1
      go_wp2_with fail
      refine (E1.out _ hb).mono ?_
      rintro e r1 ⟨rfl, hx1⟩
      have hx2 : Below q1.heap.size q1 r1 := (below1 q1 (.cells #[.string { data := u.toArray }, .string { data := v.toArray }] 9)).trans (hx1.mono (below1 q1 (.cells #[.string { data := u.toArray }, .string { data := v.toArray }] 9)).size)
      replace hb := hb.trans (hx2.mono hb.size)
      clear hx1 hx2
      go_upto_region 5 with (fail)
      have K1 := Lib.hid (Blk.new r1 56 #[.string { data := (d ++ [10]).toArray }, .string { data := #[] }, .int .i64 0, .string { data := #[] }, .string { data := #[] }, .bool false])
      have ha := below1 r1 (.cells #[.string { data := (d ++ [10]).toArray }, .string { data := #[] }, .int .i64 0, .string { data := #[] }, .string { data := #[] }, .bool false] 56)
      replace hb := hb.trans (ha.mono hb.size)
      obtain ⟨g1, hg⟩ : ∃ g, g = r1.heap.size := ⟨_, rfl⟩
      rw [← hg] at K1 ⊢
      clear ha hg
      generalize r1.alloc (.cells #[.string { data := (d ++ [10]).toArray }, .string { data := #[] }, .int .i64 0, .string { data := #[] }, .string { data := #[] }, .bool false] 56) = v1 at *
      go_wp2_with fail
      refine (HNX.out _ hb).mono ?_
      rintro e p2 ⟨rfl, hx1⟩
      replace hb := hb.trans (hx1.mono hb.size)
      replace K1 := Lib.hid (K1.out.below hx1)
      clear hx1
      go_wp2_with fail
      refine (HNY.out _ hb).mono ?_
      rintro e q2 ⟨rfl, hx1⟩
      replace hb := hb.trans (hx1.mono hb.size)
      replace K1 := Lib.hid (K1.out.below hx1)
      clear hx1
      go_wp2_with fail
      refine (E2.out _ hb).mono ?_
      rintro e r2 ⟨rfl, hx1⟩
      have hx2 : Below q2.heap.size q2 r2 := (below1 q2 (.cells #[.string { data := u.toArray }, .string { data := v.toArray }] 9)).trans (hx1.mono (below1 q2 (.cells #[.string { data := u.toArray }, .string { data := v.toArray }] 9)).size)
      replace hb := hb.trans (hx2.mono hb.size)
      replace K1 := Lib.hid (K1.out.below hx2)
      clear hx1 hx2
      go_upto_region 6 with (fail)
      have K2 := Lib.hid (Blk.new r2 56 #[.string { data := #[] }, .string { data := #[] }, .int .i64 1, .string { data := #[] }, .string { data := #[] }, .bool false])
      have ha := below1 r2 (.cells #[.string { data := #[] }, .string { data := #[] }, .int .i64 1, .string { data := #[] }, .string { data := #[] }, .bool false] 56)
      replace K1 := Lib.hid (K1.out.below ha)
      replace hb := hb.trans (ha.mono hb.size)
      obtain ⟨g2, hg⟩ : ∃ g, g = r2.heap.size := ⟨_, rfl⟩
      rw [← hg] at K2 ⊢
      clear ha hg
      generalize r2.alloc (.cells #[.string { data := #[] }, .string { data := #[] }, .int .i64 1, .string { data := #[] }, .string { data := #[] }, .bool false] 56) = v2 at *
      go_wp2_with fail
      refine (HNX.out _ hb).mono ?_
      rintro e p3 ⟨rfl, hx1⟩
      replace hb := hb.trans (hx1.mono hb.size)
      replace K1 := Lib.hid (K1.out.below hx1)
      replace K2 := Lib.hid (K2.out.below hx1)
      clear hx1
      go_wp2_with fail
      refine (HNY.out _ hb).mono ?_
      rintro e q3 ⟨rfl, hx1⟩
      replace hb := hb.trans (hx1.mono hb.size)
      replace K1 := Lib.hid (K1.out.below hx1)
      replace K2 := Lib.hid (K2.out.below hx1)
      clear hx1
      go_wp2_with fail
      refine (E3.out _ hb).mono ?_
      rintro e r3 ⟨rfl, hx1⟩
      have hx2 : Below q3.heap.size q3 r3 := (below1 q3 (.cells #[.string { data := u.toArray }, .string { data := v.toArray }] 9)).trans (hx1.mono (below1 q3 (.cells #[.string { data := u.toArray }, .string { data := v.toArray }] 9)).size)
      replace hb := hb.trans (hx2.mono hb.size)
      replace K1 := Lib.hid (K1.out.below hx2)
      replace K2 := Lib.hid (K2.out.below hx2)
      clear hx1 hx2
      go_upto_region 7 with (fail)
      have K3 := Lib.hid (Blk.new r3 56 #[.string { data := #[] }, .string { data := #[] }, .int .i64 0, .string { data := #[] }, .string { data := #[] }, .bool false])
      have ha := below1 r3 (.cells #[.string { data := #[] }, .string { data := #[] }, .int .i64 0, .string { data := #[] }, .string { data := #[] }, .bool false] 56)
      replace K1 := Lib.hid (K1.out.below ha)
      replace K2 := Lib.hid (K2.out.below ha)
      replace hb := hb.trans (ha.mono hb.size)
      obtain ⟨g3, hg⟩ : ∃ g, g = r3.heap.size := ⟨_, rfl⟩
      rw [← hg] at K3 ⊢
      clear ha hg
      generalize r3.alloc (.cells #[.string { data := #[] }, .string { data := #[] }, .int .i64 0, .string { data := #[] }, .string { data := #[] }, .bool false] 56) = v3 at *
      have d10 := K1.out.cell 0
      have d22 := K2.out.cell 2
      have d32 := K3.out.cell 2
      simp only [List.getElem?_toArray, List.getElem?_cons_zero, List.getElem?_cons_succ] at d10 d22 d32
      have l0 := Later.cell d10
      have l1 := Later.cell d22
      have l2 := Later.cell d32
      have HBV := Lib.hid hb
      have HNV := Lib.hid (fun (W : World) (hW : Below v3.heap.size v3 W) => HNZ.out W (HBV.out.trans (hW.mono HBV.out.size)))
      clear K1 K2 K3 d10 d22 d32 HNX HNY HNZ E1 E2 E3 hb
      refine wp_region_eq (by kernel_rfl) (by kernel_rfl) ?_
      apply EqGo.run
      focus
        kernel_rfl
      focus
        intro x K hK
        go_wp2_with fail
        first | exact hK x (Below.refl _ _) | exact Below.refl _ _
      simp only [Act.put, List.setIfInBounds_toArray, List.set_cons_succ, List.set_cons_zero]
      apply EqGo.run
      focus
        kernel_rfl
      focus
        intro x K hK
        go_wp2_with fail
        first | exact hK x (Below.refl _ _) | exact Below.refl _ _
      simp only [Act.put, List.setIfInBounds_toArray, List.set_cons_succ, List.set_cons_zero]
      apply EqGo.run
      focus
        kernel_rfl
      focus
        intro x K hK
        go_wp2_with fail
        first | exact hK x (Below.refl _ _) | exact Below.refl _ _
      simp only [Act.put, List.setIfInBounds_toArray, List.set_cons_succ, List.set_cons_zero]
      apply EqGo.run
      focus
        kernel_rfl
      focus
        intro x K hK
        go_wp2_with fail
        first | exact hK x (Below.refl _ _) | exact Below.refl _ _
      simp only [Act.put, List.setIfInBounds_toArray, List.set_cons_succ, List.set_cons_zero]
      apply EqGo.run
      focus
        kernel_rfl
      focus
        intro x K hK
        go_wp2_with fail
        first | exact hK x (Below.refl _ _) | exact Below.refl _ _
      simp only [Act.put, List.setIfInBounds_toArray, List.set_cons_succ, List.set_cons_zero]
      apply EqGo.run
      focus
        kernel_rfl
      focus
        intro x K hK
        go_wp2_with fail
        first | exact hK x (Below.refl _ _) | exact Below.refl _ _
      simp only [Act.put, List.setIfInBounds_toArray, List.set_cons_succ, List.set_cons_zero]
      apply EqGo.run
      focus
        kernel_rfl
      focus
        intro x K hK
        go_wp2_with fail
        first | exact hK x (Below.refl _ _) | exact Below.refl _ _
      simp only [Act.put, List.setIfInBounds_toArray, List.set_cons_succ, List.set_cons_zero]
      apply EqGo.run
      focus
        kernel_rfl
      focus
        intro x K hK
        go_wp2_with fail
        first | exact hK x (Below.refl _ _) | exact Below.refl _ _
      simp only [Act.put, List.setIfInBounds_toArray, List.set_cons_succ, List.set_cons_zero]
      apply EqGo.run
      focus
        kernel_rfl
      focus
        intro x K hK
        go_wp2_with fail
        refine (Hid.out HNV x.val x.below).mono ?_
        rintro e x' ⟨rfl, hb'⟩
        exact hK ⟨x', x.below.trans (hb'.mono x.below.size)⟩ hb'
      simp only [Act.put, List.setIfInBounds_toArray, List.set_cons_succ, List.set_cons_zero]
      apply EqGo.run
      focus
        kernel_rfl
      focus
        intro x K hK
        go_wp2_with fail
        first | exact hK x (Below.refl _ _) | exact Below.refl _ _
      simp only [Act.put, List.setIfInBounds_toArray, List.set_cons_succ, List.set_cons_zero]
      apply EqGo.run
      focus
        kernel_rfl
      focus
        intro x K hK
        go_wp2_with fail
        first | exact hK x (Below.refl _ _) | exact Below.refl _ _
      simp only [Act.put, List.setIfInBounds_toArray, List.set_cons_succ, List.set_cons_zero]
      apply EqGo.run
      focus
        kernel_rfl
      focus
        intro x K hK
        go_wp2_with fail
        first | exact hK x (Below.refl _ _) | exact Below.refl _ _
      simp only [Act.put, List.setIfInBounds_toArray, List.set_cons_succ, List.set_cons_zero]
      apply EqGo.run
      focus
        kernel_rfl
      focus
        intro x K hK
        go_wp2_with fail
        first | exact hK x (Below.refl _ _) | exact Below.refl _ _
      simp only [Act.put, List.setIfInBounds_toArray, List.set_cons_succ, List.set_cons_zero]
      apply EqGo.run
      focus
        kernel_rfl
      focus
        intro x K hK
        go_wp2_with fail
        first | exact hK x (Below.refl _ _) | exact Below.refl _ _
      simp only [Act.put, List.setIfInBounds_toArray, List.set_cons_succ, List.set_cons_zero]
      apply EqGo.run
      focus
        kernel_rfl
      focus
        intro x K hK
        go_wp2_with fail
        first | exact hK x (Below.refl _ _) | exact Below.refl _ _
      simp only [Act.put, List.setIfInBounds_toArray, List.set_cons_succ, List.set_cons_zero]
      apply EqGo.run
      focus
        kernel_rfl
      focus
        intro x K hK
        go_wp2_with fail
        first | exact hK x (Below.refl _ _) | exact Below.refl _ _
      simp only [Act.put, List.setIfInBounds_toArray, List.set_cons_succ, List.set_cons_zero]
      apply EqGo.run
      focus
        kernel_rfl
      focus
        intro x K hK
        go_wp2_with fail
        first | exact hK x (Below.refl _ _) | exact Below.refl _ _
      simp only [Act.put, List.setIfInBounds_toArray, List.set_cons_succ, List.set_cons_zero]
      apply EqGo.run
      focus
        kernel_rfl
      focus
        intro x K hK
        go_wp2_with fail
        first | exact hK x (Below.refl _ _) | exact Below.refl _ _
      simp only [Act.put, List.setIfInBounds_toArray, List.set_cons_succ, List.set_cons_zero]
      apply EqGo.run
      focus
        kernel_rfl
      focus
        intro x K hK
        go_wp2_with fail
        first | exact hK x (Below.refl _ _) | exact Below.refl _ _
      simp only [Act.put, List.setIfInBounds_toArray, List.set_cons_succ, List.set_cons_zero]
      apply EqGo.run
      focus
        kernel_rfl
      focus
        intro x K hK
        go_wp2_with fail
        first | exact hK x (Below.refl _ _) | exact Below.refl _ _
      simp only [Act.put, List.setIfInBounds_toArray, List.set_cons_succ, List.set_cons_zero]
      apply EqGo.run
      focus
        kernel_rfl
      focus
        intro x K hK
        go_wp2_with fail
        first | exact hK x (Below.refl _ _) | exact Below.refl _ _
      simp only [Act.put, List.setIfInBounds_toArray, List.set_cons_succ, List.set_cons_zero]
      apply EqGo.run
      focus
        kernel_rfl
      focus
        intro x K hK
        go_wp2_with fail
        first | exact hK x (Below.refl _ _) | exact Below.refl _ _
      simp only [Act.put, List.setIfInBounds_toArray, List.set_cons_succ, List.set_cons_zero]
      apply EqGo.run
      focus
        kernel_rfl
      focus
        intro x K hK
        go_wp2_with fail
        first | exact hK x (Below.refl _ _) | exact Below.refl _ _
      simp only [Act.put, List.setIfInBounds_toArray, List.set_cons_succ, List.set_cons_zero]
      apply EqGo.run
      focus
        kernel_rfl
      focus
        intro x K hK
        go_wp2_with fail
        first | exact hK x (Below.refl _ _) | exact Below.refl _ _
      simp only [Act.put, List.setIfInBounds_toArray, List.set_cons_succ, List.set_cons_zero]
      apply EqGo.run
      focus
        kernel_rfl
      focus
        intro x K hK
        go_wp2_with fail
        first | exact hK x (Below.refl _ _) | exact Below.refl _ _
      simp only [Act.put, List.setIfInBounds_toArray, List.set_cons_succ, List.set_cons_zero]
      apply EqGo.run
      focus
        kernel_rfl
      focus
        intro x K hK
        go_wp2_with fail
        first | exact hK x (Below.refl _ _) | exact Below.refl _ _
      simp only [Act.put, List.setIfInBounds_toArray, List.set_cons_succ, List.set_cons_zero]
      apply EqGo.run
      focus
        kernel_rfl
      focus
        intro x K hK
        go_wp2_with fail
        first | exact hK x (Below.refl _ _) | exact Below.refl _ _
      simp only [Act.put, List.setIfInBounds_toArray, List.set_cons_succ, List.set_cons_zero]
      apply EqGo.run
      focus
        kernel_rfl
      focus
        intro x K hK
        go_wp2_with fail
        first | exact hK x (Below.refl _ _) | exact Below.refl _ _
      simp only [Act.put, List.setIfInBounds_toArray, List.set_cons_succ, List.set_cons_zero]
      apply EqGo.run
      focus
        kernel_rfl
      focus
        intro x K hK
        go_wp2_with fail
        first | exact hK x (Below.refl _ _) | exact Below.refl _ _
      simp only [Act.put, List.setIfInBounds_toArray, List.set_cons_succ, List.set_cons_zero]
      apply EqGo.run
      focus
        kernel_rfl
      focus
        intro x K hK
        go_wp2_with fail
        first | exact hK x (Below.refl _ _) | exact Below.refl _ _
      simp only [Act.put, List.setIfInBounds_toArray, List.set_cons_succ, List.set_cons_zero]
      apply EqGo.run
      focus
        kernel_rfl
      focus
        intro x K hK
        go_wp2_with fail
        first | exact hK x (Below.refl _ _) | exact Below.refl _ _
      simp only [Act.put, List.setIfInBounds_toArray, List.set_cons_succ, List.set_cons_zero]
      intro x0
      have HX := Lib.hid x0.below
      clear l0 l1 l2
      generalize x0.val = wf at *
      clear x0
      go_wp2_with fail
      go_ret
      exact ⟨rfl, HBV.out.trans (HX.out.mono HBV.out.size)⟩
    | false =>
      simp only [if_true, Bool.false_eq_true, if_false] at E2 E3
      go_enter Tryd.func7, Tryd.ntmps7
      go_wp2_with fail
      refine HF.out.mono ?_
      rintro e w1 ⟨rfl, hb⟩
      clear HF
      go_wp2_with fail
      refine (HNX.out _ hb).mono ?_
      rintro e p1 ⟨rfl, hx1⟩
      replace hb := hb.trans (hx1.mono hb.size)
      clear hx1
      go_wp2_with fail
      refine (HNY.out _ hb).mono ?_
      rintro e q1 ⟨rfl, hx1⟩
      replace hb := hb.trans (hx1.mono hb.size)
      clear hx1
      go_wp2_with fail
      refine (E1.out _ hb).mono ?_
      rintro e r1 ⟨rfl, hx1⟩
      have hx2 : Below q1.heap.size q1 r1 := (below1 q1 (.cells #[.string { data := u.toArray }, .string { data := v.toArray }] 9)).trans (hx1.mono (below1 q1 (.cells #[.string { data := u.toArray }, .string { data := v.toArray }] 9)).size)
      replace hb := hb.trans (hx2.mono hb.size)
      clear hx1 hx2
      go_upto_region 5 with (fail)
      have K1 := Lib.hid (Blk.new r1 56 #[.string { data := (d ++ [10]).toArray }, .string { data := #[] }, .int .i64 0, .string { data := #[] }, .string { data := #[] }, .bool false])
      have ha := below1 r1 (.cells #[.string { data := (d ++ [10]).toArray }, .string { data := #[] }, .int .i64 0, .string { data := #[] }, .string { data := #[] }, .bool false] 56)
      replace hb := hb.trans (ha.mono hb.size)
      obtain ⟨g1, hg⟩ : ∃ g, g = r1.heap.size := ⟨_, rfl⟩
      rw [← hg] at K1 ⊢
      clear ha hg
      generalize r1.alloc (.cells #[.string { data := (d ++ [10]).toArray }, .string { data := #[] }, .int .i64 0, .string { data := #[] }, .string { data := #[] }, .bool false] 56) = v1 at *
      go_wp2_with fail
      refine (HNX.out _ hb).mono ?_
      rintro e p2 ⟨rfl, hx1⟩
      replace hb := hb.trans (hx1.mono hb.size)
      replace K1 := Lib.hid (K1.out.below hx1)
      clear hx1
      go_wp2_with fail
      refine (HNY.out _ hb).mono ?_
      rintro e q2 ⟨rfl, hx1⟩
      replace hb := hb.trans (hx1.mono hb.size)
      replace K1 := Lib.hid (K1.out.below hx1)
      clear hx1
      go_wp2_with fail
      refine (E2.out _ hb).mono ?_
      rintro e r2 ⟨rfl, hx1⟩
      have hx2 : Below q2.heap.size q2 r2 := (below1 q2 (.cells #[.string { data := u.toArray }, .string { data := v.toArray }] 9)).trans (hx1.mono (below1 q2 (.cells #[.string { data := u.toArray }, .string { data := v.toArray }] 9)).size)
      replace hb := hb.trans (hx2.mono hb.size)
      replace K1 := Lib.hid (K1.out.below hx2)
      clear hx1 hx2
      go_upto_region 6 with (fail)
      have K2 := Lib.hid (Blk.new r2 56 #[.string { data := #[] }, .string { data := #[] }, .int .i64 1, .string { data := #[] }, .string { data := #[] }, .bool false])
      have ha := below1 r2 (.cells #[.string { data := #[] }, .string { data := #[] }, .int .i64 1, .string { data := #[] }, .string { data := #[] }, .bool false] 56)
      replace K1 := Lib.hid (K1.out.below ha)
      replace hb := hb.trans (ha.mono hb.size)
      obtain ⟨g2, hg⟩ : ∃ g, g = r2.heap.size := ⟨_, rfl⟩
      rw [← hg] at K2 ⊢
      clear ha hg
      generalize r2.alloc (.cells #[.string { data := #[] }, .string { data := #[] }, .int .i64 1, .string { data := #[] }, .string { data := #[] }, .bool false] 56) = v2 at *
      go_wp2_with fail
      refine (HNX.out _ hb).mono ?_
      rintro e p3 ⟨rfl, hx1⟩
      replace hb := hb.trans (hx1.mono hb.size)
      replace K1 := Lib.hid (K1.out.below hx1)
      replace K2 := Lib.hid (K2.out.below hx1)
      clear hx1
      go_wp2_with fail
      refine (HNY.out _ hb).mono ?_
      rintro e q3 ⟨rfl, hx1⟩
      replace hb := hb.trans (hx1.mono hb.size)
      replace K1 := Lib.hid (K1.out.below hx1)
      replace K2 := Lib.hid (K2.out.below hx1)
      clear hx1
      go_wp2_with fail
      refine (E3.out _ hb).mono ?_
      rintro e r3 ⟨rfl, hx1⟩
      have hx2 : Below q3.heap.size q3 r3 := (below1 q3 (.cells #[.string { data := u.toArray }, .string { data := v.toArray }] 9)).trans (hx1.mono (below1 q3 (.cells #[.string { data := u.toArray }, .string { data := v.toArray }] 9)).size)
      replace hb := hb.trans (hx2.mono hb.size)
      replace K1 := Lib.hid (K1.out.below hx2)
      replace K2 := Lib.hid (K2.out.below hx2)
      clear hx1 hx2
      go_upto_region 7 with (fail)
      have K3 := Lib.hid (Blk.new r3 56 #[.string { data := #[] }, .string { data := #[] }, .int .i64 1, .string { data := #[] }, .string { data := #[] }, .bool false])
      have ha := below1 r3 (.cells #[.string { data := #[] }, .string { data := #[] }, .int .i64 1, .string { data := #[] }, .string { data := #[] }, .bool false] 56)
      replace K1 := Lib.hid (K1.out.below ha)
      replace K2 := Lib.hid (K2.out.below ha)
      replace hb := hb.trans (ha.mono hb.size)
      obtain ⟨g3, hg⟩ : ∃ g, g = r3.heap.size := ⟨_, rfl⟩
      rw [← hg] at K3 ⊢
      clear ha hg
      generalize r3.alloc (.cells #[.string { data := #[] }, .string { data := #[] }, .int .i64 1, .string { data := #[] }, .string { data := #[] }, .bool false] 56) = v3 at *
      have d10 := K1.out.cell 0
      have d22 := K2.out.cell 2
      have d32 := K3.out.cell 2
      simp only [List.getElem?_toArray, List.getElem?_cons_zero, List.getElem?_cons_succ] at d10 d22 d32
      have l0 := Later.cell d10
      have l1 := Later.cell d22
      have l2 := Later.cell d32
      have HBV := Lib.hid hb
      have HNV := Lib.hid (fun (W : World) (hW : Below v3.heap.size v3 W) => HNZ.out W (HBV.out.trans (hW.mono HBV.out.size)))
      clear K1 K2 K3 d10 d22 d32 HNX HNY HNZ E1 E2 E3 hb
      refine wp_region_eq (by kernel_rfl) (by kernel_rfl) ?_
      apply EqGo.run
      focus
        kernel_rfl
      focus
        intro x K hK
        go_wp2_with fail
        first | exact hK x (Below.refl _ _) | exact Below.refl _ _
      simp only [Act.put, List.setIfInBounds_toArray, List.set_cons_succ, List.set_cons_zero]
      apply EqGo.run
      focus
        kernel_rfl
      focus
        intro x K hK
        go_wp2_with fail
        first | exact hK x (Below.refl _ _) | exact Below.refl _ _
      simp only [Act.put, List.setIfInBounds_toArray, List.set_cons_succ, List.set_cons_zero]
      apply EqGo.run
      focus
        kernel_rfl
      focus
        intro x K hK
        go_wp2_with fail
        first | exact hK x (Below.refl _ _) | exact Below.refl _ _
      simp only [Act.put, List.setIfInBounds_toArray, List.set_cons_succ, List.set_cons_zero]
      apply EqGo.run
      focus
        kernel_rfl
      focus
        intro x K hK
        go_wp2_with fail
        first | exact hK x (Below.refl _ _) | exact Below.refl _ _
      simp only [Act.put, List.setIfInBounds_toArray, List.set_cons_succ, List.set_cons_zero]
      apply EqGo.run
      focus
        kernel_rfl
      focus
        intro x K hK
        go_wp2_with fail
        first | exact hK x (Below.refl _ _) | exact Below.refl _ _
      simp only [Act.put, List.setIfInBounds_toArray, List.set_cons_succ, List.set_cons_zero]
      apply EqGo.run
      focus
        kernel_rfl
      focus
        intro x K hK
        go_wp2_with fail
        first | exact hK x (Below.refl _ _) | exact Below.refl _ _
      simp only [Act.put, List.setIfInBounds_toArray, List.set_cons_succ, List.set_cons_zero]
      apply EqGo.run
      focus
        kernel_rfl
      focus
        intro x K hK
        go_wp2_with fail
        first | exact hK x (Below.refl _ _) | exact Below.refl _ _
      simp only [Act.put, List.setIfInBounds_toArray, List.set_cons_succ, List.set_cons_zero]
      apply EqGo.run
      focus
        kernel_rfl
      focus
        intro x K hK
        go_wp2_with fail
        first | exact hK x (Below.refl _ _) | exact Below.refl _ _
      simp only [Act.put, List.setIfInBounds_toArray, List.set_cons_succ, List.set_cons_zero]
      apply EqGo.run
      focus
        kernel_rfl
      focus
        intro x K hK
        go_wp2_with fail
        refine (Hid.out HNV x.val x.below).mono ?_
        rintro e x' ⟨rfl, hb'⟩
        exact hK ⟨x', x.below.trans (hb'.mono x.below.size)⟩ hb'
      simp only [Act.put, List.setIfInBounds_toArray, List.set_cons_succ, List.set_cons_zero]
      apply EqGo.run
      focus
        kernel_rfl
      focus
        intro x K hK
        go_wp2_with fail
        first | exact hK x (Below.refl _ _) | exact Below.refl _ _
      simp only [Act.put, List.setIfInBounds_toArray, List.set_cons_succ, List.set_cons_zero]
      apply EqGo.run
      focus
        kernel_rfl
      focus
        intro x K hK
        go_wp2_with fail
        first | exact hK x (Below.refl _ _) | exact Below.refl _ _
      simp only [Act.put, List.setIfInBounds_toArray, List.set_cons_succ, List.set_cons_zero]
      apply EqGo.run
      focus
        kernel_rfl
      focus
        intro x K hK
        go_wp2_with fail
        first | exact hK x (Below.refl _ _) | exact Below.refl _ _
      simp only [Act.put, List.setIfInBounds_toArray, List.set_cons_succ, List.set_cons_zero]
      apply EqGo.run
      focus
        kernel_rfl
      focus
        intro x K hK
        go_wp2_with fail
        first | exact hK x (Below.refl _ _) | exact Below.refl _ _
      simp only [Act.put, List.setIfInBounds_toArray, List.set_cons_succ, List.set_cons_zero]
      apply EqGo.run
      focus
        kernel_rfl
      focus
        intro x K hK
        go_wp2_with fail
        first | exact hK x (Below.refl _ _) | exact Below.refl _ _
      simp only [Act.put, List.setIfInBounds_toArray, List.set_cons_succ, List.set_cons_zero]
      apply EqGo.run
      focus
        kernel_rfl
      focus
        intro x K hK
        go_wp2_with fail
        first | exact hK x (Below.refl _ _) | exact Below.refl _ _
      simp only [Act.put, List.setIfInBounds_toArray, List.set_cons_succ, List.set_cons_zero]
      apply EqGo.run
      focus
        kernel_rfl
      focus
        intro x K hK
        go_wp2_with fail
        first | exact hK x (Below.refl _ _) | exact Below.refl _ _
      simp only [Act.put, List.setIfInBounds_toArray, List.set_cons_succ, List.set_cons_zero]
      apply EqGo.run
      focus
        kernel_rfl
      focus
        intro x K hK
        go_wp2_with fail
        first | exact hK x (Below.refl _ _) | exact Below.refl _ _
      simp only [Act.put, List.setIfInBounds_toArray, List.set_cons_succ, List.set_cons_zero]
      apply EqGo.run
      focus
        kernel_rfl
      focus
        intro x K hK
        go_wp2_with fail
        first | exact hK x (Below.refl _ _) | exact Below.refl _ _
      simp only [Act.put, List.setIfInBounds_toArray, List.set_cons_succ, List.set_cons_zero]
      apply EqGo.run
      focus
        kernel_rfl
      focus
        intro x K hK
        go_wp2_with fail
        first | exact hK x (Below.refl _ _) | exact Below.refl _ _
      simp only [Act.put, List.setIfInBounds_toArray, List.set_cons_succ, List.set_cons_zero]
      apply EqGo.run
      focus
        kernel_rfl
      focus
        intro x K hK
        go_wp2_with fail
        first | exact hK x (Below.refl _ _) | exact Below.refl _ _
      simp only [Act.put, List.setIfInBounds_toArray, List.set_cons_succ, List.set_cons_zero]
      apply EqGo.run
      focus
        kernel_rfl
      focus
        intro x K hK
        go_wp2_with fail
        first | exact hK x (Below.refl _ _) | exact Below.refl _ _
      simp only [Act.put, List.setIfInBounds_toArray, List.set_cons_succ, List.set_cons_zero]
      apply EqGo.run
      focus
        kernel_rfl
      focus
        intro x K hK
        go_wp2_with fail
        first | exact hK x (Below.refl _ _) | exact Below.refl _ _
      simp only [Act.put, List.setIfInBounds_toArray, List.set_cons_succ, List.set_cons_zero]
      apply EqGo.run
      focus
        kernel_rfl
      focus
        intro x K hK
        go_wp2_with fail
        first | exact hK x (Below.refl _ _) | exact Below.refl _ _
      simp only [Act.put, List.setIfInBounds_toArray, List.set_cons_succ, List.set_cons_zero]
      apply EqGo.run
      focus
        kernel_rfl
      focus
        intro x K hK
        go_wp2_with fail
        first | exact hK x (Below.refl _ _) | exact Below.refl _ _
      simp only [Act.put, List.setIfInBounds_toArray, List.set_cons_succ, List.set_cons_zero]
      apply EqGo.run
      focus
        kernel_rfl
      focus
        intro x K hK
        go_wp2_with fail
        first | exact hK x (Below.refl _ _) | exact Below.refl _ _
      simp only [Act.put, List.setIfInBounds_toArray, List.set_cons_succ, List.set_cons_zero]
      apply EqGo.run
      focus
        kernel_rfl
      focus
        intro x K hK
        go_wp2_with fail
        first | exact hK x (Below.refl _ _) | exact Below.refl _ _
      simp only [Act.put, List.setIfInBounds_toArray, List.set_cons_succ, List.set_cons_zero]
      apply EqGo.run
      focus
        kernel_rfl
      focus
        intro x K hK
        go_wp2_with fail
        first | exact hK x (Below.refl _ _) | exact Below.refl _ _
      simp only [Act.put, List.setIfInBounds_toArray, List.set_cons_succ, List.set_cons_zero]
      apply EqGo.run
      focus
        kernel_rfl
      focus
        intro x K hK
        go_wp2_with fail
        first | exact hK x (Below.refl _ _) | exact Below.refl _ _
      simp only [Act.put, List.setIfInBounds_toArray, List.set_cons_succ, List.set_cons_zero]
      apply EqGo.run
      focus
        kernel_rfl
      focus
        intro x K hK
        go_wp2_with fail
        first | exact hK x (Below.refl _ _) | exact Below.refl _ _
      simp only [Act.put, List.setIfInBounds_toArray, List.set_cons_succ, List.set_cons_zero]
      apply EqGo.run
      focus
        kernel_rfl
      focus
        intro x K hK
        go_wp2_with fail
        first | exact hK x (Below.refl _ _) | exact Below.refl _ _
      simp only [Act.put, List.setIfInBounds_toArray, List.set_cons_succ, List.set_cons_zero]
      apply EqGo.run
      focus
        kernel_rfl
      focus
        intro x K hK
        go_wp2_with fail
        first | exact hK x (Below.refl _ _) | exact Below.refl _ _
      simp only [Act.put, List.setIfInBounds_toArray, List.set_cons_succ, List.set_cons_zero]
      intro x0
      have HX := Lib.hid x0.below
      clear l0 l1 l2
      generalize x0.val = wf at *
      clear x0
      go_wp2_with fail
      go_ret
      exact ⟨rfl, HBV.out.trans (HX.out.mono HBV.out.size)⟩
end Go.Proofs.YtlhpflilpdceiaaDoor
