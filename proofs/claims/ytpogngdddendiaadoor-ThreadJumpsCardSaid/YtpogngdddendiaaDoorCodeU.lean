/- The walk over code.Targets: an instruction's targets, of any code. A bound on the length. -/
import Derived.Test.YtpogngdddendiaaDoorCodeT
import Derived.Test.YtpogngdddendiaaDoorCodeI
set_option linter.unusedVariables false
set_option linter.unusedSimpArgs false
namespace Go.Proofs.YtpogngdddendiaaDoor
open Go.RowKit Go.Sort

theorem ownsRow_lower {w : World} {b b' : Nat} {e : TypeId} {sz : Nat} {v : Value} {n : Nat} {xs : List Value} (h : w.ownsRow b' e sz v n xs) (hb : b ≤ b') : w.ownsRow b e sz v n xs :=
  ⟨h.1, h.2.imp id fun ⟨g, cap, cur, h1, h2, h3⟩ => ⟨g, cap, cur, h1, Nat.le_trans hb h2, h3⟩⟩
/-- Where an instruction may go on, of a code of n. -/
def targX (n : Nat) (k : Int) (x : Ins) : List Int := Lib.compact (sortZ ((placesL x ++ (if x.op = 18 then [] else [k + 1])).filter fun y => !outB n y))
def targL (X : List Ins) (i : Int) : List Int :=
  if i < 0 ∨ (X.length : Int) ≤ i then [] else match X[i.toNat]? with
  | none => []
  | some x => if x.op = 41 ∨ x.op = 40 then [] else targX X.length i x
theorem placesL_len (x : Ins) : (placesL x).length ≤ 2 := by unfold placesL; cases placeA x.op <;> cases placeB x.op <;> simp
theorem tg_ne (x : Ins) (k : Int) : placesL x ++ (if x.op = 18 then [] else [k + 1]) ≠ [] := by
  by_cases h : x.op = 18
  · unfold placesL; rw [h]; simp [placeA]
  · rw [if_neg h]; simp
set_option maxRecDepth 100000 in
set_option maxHeartbeats 4000000 in
theorem targets_any (A : Option Addr) (c : Nat) (st i : Int) (X : List Ins) (w : World) (hlen : X.length ≤ 9000) (hi64 : InI i) (hrd : RdL w 4 insc A X) :
    Calls Tryd.prog 17 #[.agg #[.slice A X.length c, .int .i64 st], .int .i64 i] w (PlacesOwn (targL X i) w) := by
  obtain ⟨W0, hW0⟩ : ∃ W0, W0 = w.alloc (.cells #[.slice A X.length c, .int .i64 st] 29) := ⟨_, rfl⟩
  have hb0 : Below w.heap.size w W0 := by rw [hW0]; exact (Below.refl _ _).alloc (Nat.le_refl _) _
  have hB0 : Blk W0 w.heap.size 29 #[.slice A X.length c, .int .i64 st] := by rw [hW0]; exact Blk.new w _ _
  have hsz : W0.heap.size = w.heap.size + 1 := by rw [hW0]; exact Array.size_push _
  have HRD := Lib.hid (hrd.below hb0)
  have z0 := hB0.cell 0
  simp only [List.getElem?_toArray, List.getElem?_cons_zero] at z0
  have HB0 := Lib.hid hb0
  have HBK := Lib.hid hB0
  obtain ⟨i1, hi1⟩ := hi64
  obtain ⟨m, hm⟩ : ∃ m, X.length = m := ⟨_, rfl⟩
  have HM := Lib.hid hm
  have HSZ := Lib.hid hsz
  obtain ⟨T, hT⟩ : ∃ T, targL X i = T := ⟨_, rfl⟩
  have HT0 := Lib.hid hT
  rw [hm] at z0 hW0 hlen ⊢
  rw [hT]
  clear hb0 hB0 hrd hm hsz hT
  go_enter Tryd.func17, Tryd.ntmps17
  go_upto_region 1 with (fail)
  rw [← hW0]
  clear hW0
  by_cases hlo : i < 0
  · have HT := Lib.hid (show T = [] by rw [← HT0.out]; unfold targL; rw [if_pos (.inl hlo)])
    go_wp2_with fail
    go_ret
    exact ⟨none, 0, 0, by rw [HT.out]; rfl, rfl, by rw [HT.out]; exact World.ownsRow_nil _ _ _ _, HB0.out⟩
  by_cases hhi : (m : Int) ≤ i
  · have HT := Lib.hid (show T = [] by rw [← HT0.out]; unfold targL; rw [if_pos (.inr (by rw [HM.out]; exact hhi))])
    go_wp2_with fail
    go_ret
    exact ⟨none, 0, 0, by rw [HT.out]; rfl, rfl, by rw [HT.out]; exact World.ownsRow_nil _ _ _ _, HB0.out⟩
  obtain ⟨k, rfl⟩ : ∃ k : Nat, i = k := ⟨i.toNat, by omega⟩
  have hk : k < m := by omega
  have hkL : k < X.length := by rw [HM.out]; exact hk
  obtain ⟨b, o, rfl, _, hcell⟩ := HRD.out k hkL
  obtain ⟨x, hx⟩ : ∃ x, x = X[k] := ⟨_, rfl⟩
  rw [← hx] at hcell
  have HTX := Lib.hid (show T = if x.op = 41 ∨ x.op = 40 then [] else targX m (k : Int) x by
    rw [← HT0.out]
    unfold targL
    rw [if_neg (by rw [HM.out]; omega), Int.toNat_natCast, List.getElem?_eq_getElem hkL, ← hx, HM.out])
  have c0 := hcell 0 _ rfl
  have c1 := hcell 1 _ rfl
  have c2 := hcell 2 _ rfl
  have c3 := hcell 3 _ rfl
  simp only [Nat.add_zero] at c0
  clear hcell hx hkL HT0
  by_cases e41 : x.op = 41
  · have HT := Lib.hid (show T = [] by rw [HTX.out, if_pos (.inl e41)])
    rw [e41] at c0
    go_wp2_with fail
    go_ret
    exact ⟨none, 0, 0, by rw [HT.out]; rfl, rfl, by rw [HT.out]; exact World.ownsRow_nil _ _ _ _, HB0.out⟩
  by_cases e40 : x.op = 40
  · have HT := Lib.hid (show T = [] by rw [HTX.out, if_pos (.inr e40)])
    rw [e40] at c0
    go_wp2_with fail
    go_ret
    exact ⟨none, 0, 0, by rw [HT.out]; rfl, rfl, by rw [HT.out]; exact World.ownsRow_nil _ _ _ _, HB0.out⟩
  have HT := Lib.hid (show T = targX m (k : Int) x by rw [HTX.out, if_neg (by simp [e41, e40])])
  have HPC := Lib.hid (places_own x W0)
  have HLQ := Lib.hid (placesL_len x)
  have HNE := Lib.hid (tg_ne x (k : Int))
  have f41 : (x.op == 41) = false := by simp [e41]
  have f40 : (x.op == 40) = false := by simp [e40]
  clear HTX e41 e40
  go_upto_region 3 with (fail)
  go_wp2_with fail
  refine HPC.out.mono ?_
  rintro e w1 ⟨A1, cap1, n1, hn1, rfl, hown1, hb1⟩
  have HB1 := Lib.hid (HB0.out.trans (hb1.mono HB0.out.size))
  have HBK1 := Lib.hid (HBK.out.below hb1)
  have y0 := HBK1.out.cell 0
  have d0 := cell_keep hb1 c0
  simp only [List.getElem?_toArray, List.getElem?_cons_zero] at y0
  rw [HM.out] at y0
  have hown0 := ownsRow_lower (b := w.heap.size + 1) hown1 (by rw [HSZ.out]; exact Nat.le_refl _)
  have HBW := Lib.hid (show Below (w.heap.size + 1) W0 w1 from hb1.mono (by rw [HSZ.out]; exact Nat.le_refl _))
  have hsz1 : w.heap.size + 1 ≤ w1.heap.size := by have := hb1.size; rw [HSZ.out] at this; exact this
  clear hown1 hb1 c0 c1 c2 c3 HPC
  obtain ⟨P, hP⟩ : ∃ P, placesL x = P := ⟨_, rfl⟩
  have HP := Lib.hid hP
  rw [hP] at HLQ HNE hn1 hown0
  clear hP
  obtain ⟨i0, hi, hz0, hz1, hz2⟩ := info_parts infoIntC
  obtain ⟨g, hg⟩ : ∃ g, g = w.heap.size := ⟨_, rfl⟩
  have HG := Lib.hid hg
  rw [← hg] at hown0 hsz1 y0 HBW ⊢
  clear hg
  have hlq := HLQ.out
  have HPN := Lib.hid hn1.symm
  rw [← hn1] at hlq
  clear hn1
  generalize n1 = pn at *
  by_cases e18 : x.op = 18
  · have HL := Lib.hid (show T = Lib.compact (sortZ (P.filter fun y => !outB m y)) by rw [HT.out]; unfold targX; rw [if_pos e18, HP.out, List.append_nil])
    have HNP := Lib.hid (show P ≠ [] by have := HNE.out; rw [if_pos e18, List.append_nil] at this; exact this)
    have HDF := Lib.hid (delF_any (g + 1) g _ m c _ P w1 (Nat.lt_succ_self _) hsz1 y0 (by rw [HPN.out]; exact hown0) HNP.out (by rw [HPN.out]; omega))
    have HBX := Lib.hid HBW.out
    rw [e18] at d0
    clear e18 hown0 hsz1 HNE HT
    have HLL := Lib.hid (show P.length ≤ 3 by rw [HPN.out]; omega)
    obtain ⟨LF, hLF⟩ : ∃ LF, (P).filter (fun y => !outB m y) = LF := ⟨_, rfl⟩
    have HLF := Lib.hid (show LF.length ≤ 1000 by rw [← hLF]; refine Nat.le_trans (List.length_filter_le _ _) (Nat.le_trans HLL.out (by decide)))
    rw [hLF] at HDF HL
    clear hLF
    go_wp2_with fail
    refine HDF.out.mono ?_
    rintro e w3 ⟨A3, c3, rfl, hown3, hb3⟩
    have HS := Lib.hid (sortZ_any _ LF _ w3 hown3 (by have := HLF.out; omega))
    have HX3 := Lib.hid (HBX.out.trans hb3)
    obtain ⟨n3, hn3⟩ : ∃ n3, LF.length = n3 := ⟨_, rfl⟩
    have HN3 := Lib.hid hn3
    rw [hn3] at HS ⊢
    clear hown3 hb3 hn3 HDF HBX
    go_wp2_with fail
    refine HS.out.mono ?_
    rintro e w4 ⟨rfl, hown4, hb4⟩
    have HC := Lib.hid (compactZ_any _ (sortZ LF) _ w4 (by rw [sortZ_len, HN3.out]; exact hown4) (by rw [sortZ_len]; have := HLF.out; omega))
    have HX4 := Lib.hid (HX3.out.trans hb4)
    clear hown4 hb4 HS HX3
    go_wp2_with fail
    refine HC.out.mono ?_
    rw [← HL.out]
    rintro e w5 ⟨A5, c5, rfl, hown5, hb5⟩
    have HX5 := Lib.hid (HX4.out.trans hb5)
    have HO5 := Lib.hid (ownsRow_lower hown5 (Nat.le_succ _))
    obtain ⟨n5, hn5⟩ : ∃ n5, T.length = n5 := ⟨_, rfl⟩
    have HN5 := Lib.hid hn5
    rw [hn5] at HO5 ⊢
    clear hown5 hb5 hn5 HC HX4
    go_wp2_with fail
    go_ret
    exact ⟨_, _, n5, HN5.out.symm, rfl, by rw [← HG.out]; exact HO5.out, by rw [← HG.out]; exact (by have h0 := HB0.out; rw [← HG.out] at h0; exact h0.trans (HX5.out.mono (Nat.le_succ _)))⟩
  · have HL := Lib.hid (show T = Lib.compact (sortZ ((P ++ [(k : Int) + 1]).filter fun y => !outB m y)) by rw [HT.out]; unfold targX; rw [if_neg e18, HP.out])
    have f18 : (x.op != 18) = true := by simp [e18]
    have hkk : decide ((k : Int) + 1 ≤ 9223372036854775807) = true := by simp; omega
    clear e18 HNE HT
    go_upto_region 6 with (at_builtin; refine wpList_push rfl _ _ _ rfl Tryd.underlying45 hi hz0 hz1 hz2 rfl (by decide) hown0 rfl rfl rfl (by simp [Value.oneCell']) (by omega) (by decide) hsz1 ?_; intro A2 c2 w2 hown2 hb2 hoo2)
    have hsz2 : g + 1 ≤ w2.heap.size := Nat.le_trans hsz1 hb2.size
    have y2 : w2.cell? ⟨g, 0, none⟩ = some (.slice (some ⟨b, o, none⟩) m c) := by rw [← y0]; unfold World.cell?; rw [hb2.block g (Nat.lt_succ_self _)]
    have HDF := Lib.hid (delF_any (g + 1) g _ m c _ (P ++ [(k : Int) + 1]) w2 (Nat.lt_succ_self _) hsz2 y2 (by rw [List.length_append, HPN.out, List.flatMap_append]; exact hown2) (by simp) (by rw [List.length_append, HPN.out]; simp; omega))
    have HBX := Lib.hid (HBW.out.trans hb2)
    clear hown0 hown2 hsz1 hb2 hoo2 y0 d0
    obtain ⟨LL, hLL⟩ : ∃ LL, LL = P ++ [(k : Int) + 1] := ⟨_, rfl⟩
    have HLL := Lib.hid (show LL.length ≤ 3 by rw [hLL, List.length_append, HPN.out]; simp; omega)
    have HLN := Lib.hid (show LL.length = pn + 1 by rw [hLL, List.length_append, HPN.out]; rfl)
    rw [← hLL] at HDF HL
    clear hLL
    obtain ⟨LF, hLF⟩ : ∃ LF, (LL).filter (fun y => !outB m y) = LF := ⟨_, rfl⟩
    have HLF := Lib.hid (show LF.length ≤ 1000 by rw [← hLF]; refine Nat.le_trans (List.length_filter_le _ _) (Nat.le_trans HLL.out (by decide)))
    rw [hLF] at HDF HL
    clear hLF
    go_wp2_with fail
    refine HDF.out.mono ?_
    rintro e w3 ⟨A3, c3, rfl, hown3, hb3⟩
    have HS := Lib.hid (sortZ_any _ LF _ w3 hown3 (by have := HLF.out; omega))
    have HX3 := Lib.hid (HBX.out.trans hb3)
    obtain ⟨n3, hn3⟩ : ∃ n3, LF.length = n3 := ⟨_, rfl⟩
    have HN3 := Lib.hid hn3
    rw [hn3] at HS ⊢
    clear hown3 hb3 hn3 HDF HBX
    go_wp2_with fail
    refine HS.out.mono ?_
    rintro e w4 ⟨rfl, hown4, hb4⟩
    have HC := Lib.hid (compactZ_any _ (sortZ LF) _ w4 (by rw [sortZ_len, HN3.out]; exact hown4) (by rw [sortZ_len]; have := HLF.out; omega))
    have HX4 := Lib.hid (HX3.out.trans hb4)
    clear hown4 hb4 HS HX3
    go_wp2_with fail
    refine HC.out.mono ?_
    rw [← HL.out]
    rintro e w5 ⟨A5, c5, rfl, hown5, hb5⟩
    have HX5 := Lib.hid (HX4.out.trans hb5)
    have HO5 := Lib.hid (ownsRow_lower hown5 (Nat.le_succ _))
    obtain ⟨n5, hn5⟩ : ∃ n5, T.length = n5 := ⟨_, rfl⟩
    have HN5 := Lib.hid hn5
    rw [hn5] at HO5 ⊢
    clear hown5 hb5 hn5 HC HX4
    go_wp2_with fail
    go_ret
    exact ⟨_, _, n5, HN5.out.symm, rfl, by rw [← HG.out]; exact HO5.out, by rw [← HG.out]; exact (by have h0 := HB0.out; rw [← HG.out] at h0; exact h0.trans (HX5.out.mono (Nat.le_succ _)))⟩
end Go.Proofs.YtpogngdddendiaaDoor
