/- The walk over the laws' own first: the chapter's examples hold. The library's table and bound are hypotheses. -/
import Derived.Test.YtjpfolbghjhodaaDoorBuiltW4
set_option linter.unusedVariables false
set_option linter.unusedSimpArgs false
namespace Go.Proofs.YtjpfolbghjhodaaDoor
open Go.RowKit Go.Maps

theorem rdl_lit (w : World) (t : TypeId) (L : List (List UInt8)) (cs : Array Value) (h : cs.toList = L.flatMap strc) : RdL (w.alloc (.cells cs t)) 1 strc (some ⟨w.heap.size, 0, none⟩) L := by
  intro k hk
  refine ⟨w.heap.size, 0, rfl, by rw [World.alloc]; simp, fun j u hu => ?_⟩
  rw [Nat.mul_one, Nat.zero_add, cell_of_row _ _ _ cs t (0, 0) (heap_alloc_new w _)]
  have hj : j = 0 := by
    have h1 := (List.getElem?_eq_some_iff.1 hu).1
    rw [strc_len] at h1
    omega
  subst hj
  have hf := flat_at strc_len L k hk 0 u hu
  rw [Nat.mul_one] at hf
  rw [← Array.getElem?_toList, h]
  exact hf
theorem below1 (w : World) (o : Obj) : Below w.heap.size w (w.alloc o) := (Below.refl _ _).alloc (Nat.le_refl _) _
theorem dec5 : Lib.decDigits 5 = [53] := by
  rw [Lib.decDigits]
  rfl
theorem ex_echo : { oc0 [104, 105] with out := spaced [[97], [98]] ++ [10] } = ⟨[97, 32, 98, 10], [104, 105], 0, [], [], false⟩ := by kernel_rfl
theorem ex_read : readA [120, 10, 121] [[118]] (oc0 [120, 10, 121]) = ⟨[], [121], 0, [118], [120], false⟩ := by kernel_rfl
theorem ex_add : addA [[50], [51]] (oc0 []) = ⟨[53, 10], [], 0, [], [], false⟩ := by
  unfold addA
  rw [show numA [[50], [51]] = (2, 3, true) by kernel_rfl]
  show (⟨Lib.decDigits 5 ++ [10], _, _, _, _, _⟩ : Outc) = _
  rw [dec5]
  rfl
theorem ex_exit : exitA [[51, 48, 48]] (oc0 []) = ⟨[], [], 0, [], [], true⟩ := by kernel_rfl
set_option maxRecDepth 100000 in
set_option maxHeartbeats 4000000 in
theorem first8_any (m0 : Int) (w : World) (hl : LibW w m0) : Calls Tryd.prog 21 #[] w (Ret w (.bool true)) := by
  have HL := Lib.hid hl
  have E1 := Lib.hid (fun (W : World) (hW : Below w.heap.size w W) => do_echo [104, 105] (some ⟨W.heap.size, 0, none⟩) 2 [[97], [98]] (W.alloc (.cells #[.string { data := #[97] }, .string { data := #[98] }] 9)) (rdl_lit W _ _ _ rfl) (by decide) (by decide))
  simp only [ex_echo] at E1
  simp only [DoRet, ocV] at E1
  have E2 := Lib.hid (fun (W : World) (hW : Below w.heap.size w W) => do_read [120, 10, 121] (some ⟨W.heap.size, 0, none⟩) 1 [[118]] (W.alloc (.cells #[.string { data := #[118] }] 9)) m0 ((HL.out.below hW).below (below1 _ _)) (rdl_lit W _ _ _ rfl) (by decide) (by decide) (by decide))
  simp only [ex_read] at E2
  simp only [DoRet, ocV] at E2
  have E3 := Lib.hid (fun (W : World) (hW : Below w.heap.size w W) => do_add [] (some ⟨W.heap.size, 0, none⟩) 2 [[50], [51]] (W.alloc (.cells #[.string { data := #[50] }, .string { data := #[51] }] 9)) m0 ((HL.out.below hW).below (below1 _ _)) (rdl_lit W _ _ _ rfl) (by decide) (by decide))
  simp only [ex_add] at E3
  simp only [DoRet, ocV] at E3
  have E4 := Lib.hid (fun (W : World) (hW : Below w.heap.size w W) => do_exit [] (some ⟨W.heap.size, 0, none⟩) 1 [[51, 48, 48]] (W.alloc (.cells #[.string { data := #[51, 48, 48] }] 9)) (rdl_lit W _ _ _ rfl) (by decide) (by decide))
  simp only [ex_exit] at E4
  simp only [DoRet, ocV] at E4
  have E5 := Lib.hid (fun (W : World) => do_none [108, 115] [] (.slice none 0 0) W (by decide) has_ls at_ls)
  simp only [ocV, oc0] at E5
  clear hl
  go_enter Tryd.func21, Tryd.ntmps21
  have hb := Below.refl w.heap.size w
  go_wp2_with fail
  refine (E1.out w hb).mono ?_
  rintro e x1 ⟨rfl, hx⟩
  have hb1 : Below w.heap.size w x1 := (below1 w (.cells #[.string { data := #[97] }, .string { data := #[98] }] 9)).trans (hx.mono (below1 w (.cells #[.string { data := #[97] }, .string { data := #[98] }] 9)).size)
  replace hb := hb.trans (hb1.mono hb.size)
  clear hx hb1 E1
  go_upto_region 2 with (fail)
  have K1 := Lib.hid (Blk.new x1 45 #[.string { data := #[97, 32, 98, 10] }, .string { data := #[104, 105] }, .int .i64 0, .string { data := #[] }, .string { data := #[] }, .bool false])
  have ha := below1 x1 (.cells #[.string { data := #[97, 32, 98, 10] }, .string { data := #[104, 105] }, .int .i64 0, .string { data := #[] }, .string { data := #[] }, .bool false] 45)
  replace hb := hb.trans (ha.mono hb.size)
  obtain ⟨g1, hg1⟩ : ∃ g, g = x1.heap.size := ⟨_, rfl⟩
  rw [← hg1] at K1 ⊢
  clear ha hg1
  generalize x1.alloc (.cells #[.string { data := #[97, 32, 98, 10] }, .string { data := #[104, 105] }, .int .i64 0, .string { data := #[] }, .string { data := #[] }, .bool false] 45) = v1 at *
  go_wp2_with fail
  refine (E2.out v1 hb).mono ?_
  rintro e x2 ⟨rfl, hx⟩
  have hb2 : Below v1.heap.size v1 x2 := (below1 v1 (.cells #[.string { data := #[118] }] 9)).trans (hx.mono (below1 v1 (.cells #[.string { data := #[118] }] 9)).size)
  replace hb := hb.trans (hb2.mono hb.size)
  replace K1 := Lib.hid (K1.out.below hb2)
  clear hx hb2 E2
  go_upto_region 3 with (fail)
  have K2 := Lib.hid (Blk.new x2 45 #[.string { data := #[] }, .string { data := #[121] }, .int .i64 0, .string { data := #[118] }, .string { data := #[120] }, .bool false])
  have ha := below1 x2 (.cells #[.string { data := #[] }, .string { data := #[121] }, .int .i64 0, .string { data := #[118] }, .string { data := #[120] }, .bool false] 45)
  replace K1 := Lib.hid (K1.out.below ha)
  replace hb := hb.trans (ha.mono hb.size)
  obtain ⟨g2, hg2⟩ : ∃ g, g = x2.heap.size := ⟨_, rfl⟩
  rw [← hg2] at K2 ⊢
  clear ha hg2
  generalize x2.alloc (.cells #[.string { data := #[] }, .string { data := #[121] }, .int .i64 0, .string { data := #[118] }, .string { data := #[120] }, .bool false] 45) = v2 at *
  go_wp2_with fail
  refine (E3.out v2 hb).mono ?_
  rintro e x3 ⟨rfl, hx⟩
  have hb3 : Below v2.heap.size v2 x3 := (below1 v2 (.cells #[.string { data := #[50] }, .string { data := #[51] }] 9)).trans (hx.mono (below1 v2 (.cells #[.string { data := #[50] }, .string { data := #[51] }] 9)).size)
  replace hb := hb.trans (hb3.mono hb.size)
  replace K1 := Lib.hid (K1.out.below hb3)
  replace K2 := Lib.hid (K2.out.below hb3)
  clear hx hb3 E3
  go_upto_region 4 with (fail)
  have K3 := Lib.hid (Blk.new x3 45 #[.string { data := #[53, 10] }, .string { data := #[] }, .int .i64 0, .string { data := #[] }, .string { data := #[] }, .bool false])
  have ha := below1 x3 (.cells #[.string { data := #[53, 10] }, .string { data := #[] }, .int .i64 0, .string { data := #[] }, .string { data := #[] }, .bool false] 45)
  replace K1 := Lib.hid (K1.out.below ha)
  replace K2 := Lib.hid (K2.out.below ha)
  replace hb := hb.trans (ha.mono hb.size)
  obtain ⟨g3, hg3⟩ : ∃ g, g = x3.heap.size := ⟨_, rfl⟩
  rw [← hg3] at K3 ⊢
  clear ha hg3
  generalize x3.alloc (.cells #[.string { data := #[53, 10] }, .string { data := #[] }, .int .i64 0, .string { data := #[] }, .string { data := #[] }, .bool false] 45) = v3 at *
  go_wp2_with fail
  refine (E4.out v3 hb).mono ?_
  rintro e x4 ⟨rfl, hx⟩
  have hb4 : Below v3.heap.size v3 x4 := (below1 v3 (.cells #[.string { data := #[51, 48, 48] }] 9)).trans (hx.mono (below1 v3 (.cells #[.string { data := #[51, 48, 48] }] 9)).size)
  replace hb := hb.trans (hb4.mono hb.size)
  replace K1 := Lib.hid (K1.out.below hb4)
  replace K2 := Lib.hid (K2.out.below hb4)
  replace K3 := Lib.hid (K3.out.below hb4)
  clear hx hb4 E4
  go_upto_region 5 with (fail)
  have K4 := Lib.hid (Blk.new x4 45 #[.string { data := #[] }, .string { data := #[] }, .int .i64 0, .string { data := #[] }, .string { data := #[] }, .bool true])
  have ha := below1 x4 (.cells #[.string { data := #[] }, .string { data := #[] }, .int .i64 0, .string { data := #[] }, .string { data := #[] }, .bool true] 45)
  replace K1 := Lib.hid (K1.out.below ha)
  replace K2 := Lib.hid (K2.out.below ha)
  replace K3 := Lib.hid (K3.out.below ha)
  replace hb := hb.trans (ha.mono hb.size)
  obtain ⟨g4, hg4⟩ : ∃ g, g = x4.heap.size := ⟨_, rfl⟩
  rw [← hg4] at K4 ⊢
  clear ha hg4
  generalize x4.alloc (.cells #[.string { data := #[] }, .string { data := #[] }, .int .i64 0, .string { data := #[] }, .string { data := #[] }, .bool true] 45) = v4 at *
  go_wp2_with fail
  refine (E5.out _).mono ?_
  rintro e x5 ⟨rfl, hb5⟩
  replace hb := hb.trans (hb5.mono hb.size)
  replace K1 := Lib.hid (K1.out.below hb5)
  replace K2 := Lib.hid (K2.out.below hb5)
  replace K3 := Lib.hid (K3.out.below hb5)
  replace K4 := Lib.hid (K4.out.below hb5)
  clear hb5 E5
  go_upto_region 6 with (fail)
  have K5 := Lib.hid (Blk.new x5 45 #[.string { data := #[] }, .string { data := #[] }, .int .i64 0, .string { data := #[] }, .string { data := #[] }, .bool false])
  have ha := below1 x5 (.cells #[.string { data := #[] }, .string { data := #[] }, .int .i64 0, .string { data := #[] }, .string { data := #[] }, .bool false] 45)
  replace K1 := Lib.hid (K1.out.below ha)
  replace K2 := Lib.hid (K2.out.below ha)
  replace K3 := Lib.hid (K3.out.below ha)
  replace K4 := Lib.hid (K4.out.below ha)
  replace hb := hb.trans (ha.mono hb.size)
  obtain ⟨g5, hg5⟩ : ∃ g, g = x5.heap.size := ⟨_, rfl⟩
  rw [← hg5] at K5 ⊢
  clear ha hg5
  generalize x5.alloc (.cells #[.string { data := #[] }, .string { data := #[] }, .int .i64 0, .string { data := #[] }, .string { data := #[] }, .bool false] 45) = v5 at *
  have d10 := K1.out.cell 0
  have d11 := K1.out.cell 1
  have d23 := K2.out.cell 3
  have d24 := K2.out.cell 4
  have d21 := K2.out.cell 1
  have d30 := K3.out.cell 0
  have d45 := K4.out.cell 5
  have d42 := K4.out.cell 2
  simp only [List.getElem?_toArray, List.getElem?_cons_zero, List.getElem?_cons_succ] at d10 d11 d23 d24 d21 d30 d45 d42
  clear K1 K2 K3 K4 K5
  go_wp2_with fail
  go_ret
  exact ⟨rfl, hb⟩
end Go.Proofs.YtjpfolbghjhodaaDoor
