/- ListsOwn: for every two lists of texts the law answers true. What the package-level error holds is a hypothesis. -/
import Derived.Test.YtckcpokfjofcaaaDoorListWF
import Derived.Test.YtckcpokfjofcaaaDoorListWG
set_option linter.unusedVariables false
set_option linter.unusedSimpArgs false
namespace Go.Proofs.YtckcpokfjofcaaaDoor
open Go.RowKit

theorem ListRet.lo {r : Option (List (List UInt8))} {a : Addr} {w : World} {e : Ending} {w' : World} (h : ListRet r a w e w') : ∃ A n c er, e = .returned (.tuple #[.slice A n c, er]) ∧ n = (r.getD []).length ∧ OwnS w' w.heap.size (.slice A n c) (r.getD []) ∧ Below w.heap.size w w' := by
  cases r with
  | none => exact ⟨_, _, _, _, h.1, rfl, OwnS.nil _ _, h.2⟩
  | some l =>
    obtain ⟨v, rfl, ho, hb⟩ := h
    obtain ⟨A, c, he, _⟩ := ho.rd
    subst he
    exact ⟨A, _, c, _, rfl, rfl, ho, hb⟩
theorem cat_len {ls : List (List (List UInt8))} : ((catL ls).getD []).length ≤ 100 := by
  cases h : catL ls with
  | none => exact Nat.zero_le _
  | some r => exact (bigL_false.1 (cat_some ls [] r h).2).1
theorem join_len {ls : List (List (List UInt8))} : ((joinL ls).getD []).length ≤ 100 := by
  cases h : joinL ls with
  | none => exact Nat.zero_le _
  | some r => exact (bigL_false.1 (sml_joined r h)).1
theorem pickL_len (l : List (List UInt8)) (n : Int) : (pickL l n).length ≤ 100 := by
  unfold pickL
  split
  · exact Nat.zero_le _
  · show 1 ≤ 100
    decide
theorem own_lt {w : World} {B : Nat} {v : Value} {l : List (List UInt8)} (h : OwnS w B v l) : ∀ g, v.ownBlock = some g → B ≤ g ∧ g < w.heap.size := fun g hg => h.lt g hg
theorem blk_apart {v u : Value} (h : ∀ g k, v.ownBlock = some g → u.ownBlock = some k → g ≠ k) : v.ownBlock = none ∨ v.ownBlock ≠ u.ownBlock := by
  cases hv : v.ownBlock with
  | none => exact .inl rfl
  | some g => exact .inr fun he => h g g hv he.symm rfl
theorem Blk.other {w : World} {K : Nat} {t : TypeId} {cs : Array Value} (h : Blk w K t cs) {p : Addr} (hp : p.block ≠ K) (u : Value) : Blk (w.setCell p u) K t cs := by
  unfold Blk at h ⊢
  rw [Below.heap_setCell _ _ _ _ (Ne.symm hp)]
  exact h
set_option maxRecDepth 100000 in
set_option maxHeartbeats 8000000 in
theorem lown_card (Aa : Option Addr) (ca : Nat) (a : List (List UInt8)) (Ab : Option Addr) (cb : Nat) (b : List (List UInt8)) (aB : Addr) (w : World)
    (hra : RdL w 1 strc Aa a) (hca : a.length ≤ ca) (hma : ca ≤ maxLen) (hna : Aa = none → ca = 0) (hsa : ∀ x ∈ a, x.length ≤ 140737488355328)
    (hrb : RdL w 1 strc Ab b) (hcb : b.length ≤ cb) (hmb : cb ≤ maxLen) (hnb : Ab = none → cb = 0) (hsb : ∀ x ∈ b, x.length ≤ 140737488355328) (hE : BigW w aB) :
    Calls Tryd.prog 4 #[.slice Aa a.length ca, .slice Ab b.length cb] w fun e w' => e = .returned (.bool true) ∧ Below w.heap.size w w' := by
  have hva : SlS w (.slice Aa a.length ca) a := ⟨Aa, ca, rfl, hra, hna, hca, hma⟩
  have hvb : SlS w (.slice Ab b.length cb) b := ⟨Ab, cb, rfl, hrb, hnb, hcb, hmb⟩
  obtain ⟨i0, hi, hz0, hz1, hz2⟩ := info_parts infoStr
  have HS := Lib.hid (show ∀ x ∈ [a, b], ∀ s ∈ x, s.length ≤ 140737488355328 from fun x hx => by
    simp only [List.mem_cons, List.not_mem_nil, or_false] at hx
    rcases hx with rfl | rfl
    · exact hsa
    · exact hsb)
  obtain ⟨na, hna0⟩ : ∃ n, n = a.length := ⟨_, rfl⟩
  obtain ⟨nb, hnb0⟩ : ∃ n, n = b.length := ⟨_, rfl⟩
  rw [← hna0] at hva ⊢
  rw [← hnb0] at hvb ⊢
  have HNA := Lib.hid hna0
  have HNB := Lib.hid hnb0
  have HE := Lib.hid hE
  have C1 := Lib.hid (first3_any aB w hE)
  clear hra hca hma hna hsa hrb hcb hmb hnb hsb hE hna0 hnb0
  go_enter Tryd.func4, Tryd.ntmps4
  go_wp2_with fail
  refine C1.out.mono ?_
  rintro e w1 ⟨rfl, hb⟩
  clear C1
  by_cases h1 : 20 < na
  · go_wp2_with fail
    go_ret
    exact ⟨rfl, hb⟩
  by_cases h2 : 20 < nb
  · go_wp2_with fail
    go_ret
    exact ⟨rfl, hb⟩
  have CL := Lib.hid (lightN #[.slice Aa na ca, .slice Ab nb cb] [a, b] 2 w1 (AllS.two (hva.below hb) (hvb.below hb)) rfl (by show 2 ≤ 1000; decide) HS.out)
  have HLT := Lib.hid (fun h : lightL [a, b] = true => light_small h)
  generalize lightL [a, b] = q at *
  go_wp2_with fail
  refine CL.out.mono ?_
  rintro e w2 ⟨rfl, hbn⟩
  replace hb := hb.trans (hbn.mono hb.size)
  clear CL hbn HS
  cases q with
  | false =>
    go_wp2_with fail
    go_ret
    exact ⟨rfl, hb⟩
  | true =>
    have SA := Lib.hid (show Sml a from ⟨by rw [← HNA.out]; omega, fun s hs => by have := (HLT.out rfl a (by simp)).2 s hs; omega⟩)
    have SB := Lib.hid (show Sml b from ⟨by rw [← HNB.out]; omega, fun s hs => by have := (HLT.out rfl b (by simp)).2 s hs; omega⟩)
    clear HLT
    go_wp2_with fail
    refine (texts_any _ a w2 (hva.below hb) SA.out.1).mono ?_
    rintro e w3 ⟨v3, rfl, ho3, hb3⟩
    obtain ⟨A3, c3, he3, _⟩ := ho3.rd
    subst he3
    unfold OwnS at ho3
    rw [← HNA.out] at ho3 ⊢
    go_wp2_with (at_builtin; refine wpList_push rfl _ _ _ rfl Tryd.underlying22 hi hz0 hz1 hz2 rfl (by decide) ho3 rfl rfl rfl (by simp [Value.oneCell']) (by omega) (by decide) hb3.size ?_; intro A4 c4 w4 ho4 hb4 hoo4; obtain ⟨g4, hg4⟩ : ∃ g, A4 = some ⟨g, 0, none⟩ := (by rcases ho4.2 with ⟨he, h0⟩ | ⟨g, cap, cur, he, _⟩; (omega); injection he with he1 _ _; exact ⟨g, he1⟩); subst hg4; have hcap4 : na + 1 ≤ c4 ∧ c4 ≤ maxLen := (by obtain ⟨A', c', he, h1, h2, _⟩ := own_form ho4; injection he with _ _ he3; subst he3; exact ⟨h1, h2⟩); have hcap5 : na ≤ c4 := (by omega))
    have hb4' := hb3.trans hb4
    have hx4 : SlS w4 (.slice (some ⟨g4, 0, none⟩) na c4) a := by
      have h5 : w4.ownsRow w2.heap.size 9 1 (.slice (some ⟨g4, 0, none⟩) (na + 1) c4) (na + 1) ((a ++ [[98, 101, 104, 105, 110, 100]]).flatMap strc) := by rw [List.flatMap_append]; exact ho4
      obtain ⟨A', c', he, _, _, h3, _⟩ := RdL.of_own strc_len h5 (by rw [List.length_append, ← HNA.out]; rfl)
      injection he with he1 _ _
      subst he1
      have h6 := h3.take a.length
      rw [List.take_left] at h6
      exact ⟨_, c4, by rw [HNA.out], h6, (fun h => by cases h), by rw [← HNA.out]; omega, hcap4.2⟩
    have hz4 : w4.cell? ⟨g4, na, none⟩ = some (.string ⟨#[98, 101, 104, 105, 110, 100]⟩) := by
      have h7 := ho4.cellAt na (by omega)
      rw [h7, List.getElem?_append_right (by rw [flat_len strc_len, ← HNA.out]; omega), flat_len strc_len, ← HNA.out, Nat.mul_one, Nat.sub_self]
      rfl
    replace hb := hb.trans (hb4'.mono hb.size)
    clear ho3 ho4 hoo4 hb3 hb4 hb4'
    refine (texts_any _ b w4 (hvb.below hb) SB.out.1).mono ?_
    rintro e w5 ⟨v5, rfl, ho5, hb5⟩
    have hy5 := ho5.rd
    obtain ⟨A5, c5, he5, _⟩ := ho5.rd
    subst he5
    rw [← HNB.out] at hy5 ⊢
    replace hx4 := hx4.below hb5
    replace hz4 := cell_keep hb5 hz4
    replace hb := hb.trans (hb5.mono hb.size)
    clear ho5 hb5
    go_wp2_with fail
    go_loopw [8] (fun i wr => ∃ r : Nat, r ≤ 2 ∧ i = .int .i64 r ∧ Below w5.heap.size w5 wr) (fun i _ => 2 - (intOf i).toNat)
    case atStart => exact ⟨0, by omega, rfl, Below.refl _ _⟩
    case round =>
      obtain ⟨r, hr2, rfl, hbr⟩ := hrel
      generalize wr = wo at *
      have hx := hx4.below hbr
      have hy := hy5.below hbr
      have hbw := hb.trans (hbr.mono hb.size)
      by_cases hlt : r < 2
      · have hEr := HE.out.below hbw
        go_wp2_with fail
        refine ((catN #[.slice (some ⟨g4, 0, none⟩) na c4, .slice A5 nb c5] [a, b] 2 aB wo (AllS.two hx hy) rfl (by show 2 ≤ 1000; decide) (fun x hx => (sml_two SA.out SB.out x hx).1) hEr)).mono ?_
        rintro e w6 h6
        obtain ⟨A6, n6, c6, er6, rfl, hn6, ho6, hbn⟩ := h6.lo
        have hl6 : n6 ≤ 100 := by rw [hn6]; exact cat_len
        unfold OwnS at ho6
        rw [← hn6] at ho6
        have hb6 := hbn
        clear h6 hn6 hbn
        replace hx := hx.below hb6
        go_wp2_with fail
        refine ((joinN #[.slice (some ⟨g4, 0, none⟩) na c4] [a] 1 aB w6 (AllS.one hx) rfl (by show 1 ≤ 1000; decide) (fun x hx => by rw [List.mem_singleton] at hx; subst hx; exact SA.out) (hEr.below hb6))).mono ?_
        rintro e w7 h7
        obtain ⟨A7, n7, c7, er7, rfl, hn7, ho7, hbn⟩ := h7.lo
        have hl7 : n7 ≤ 100 := by rw [hn7]; exact join_len
        unfold OwnS at ho7
        rw [← hn7] at ho7
        have hb7 := hbn
        clear h7 hn7 hbn
        replace hx := hx.below hb7
        go_wp2_with fail
        refine ((catN #[.slice (some ⟨g4, 0, none⟩) na c4] [a] 1 aB w7 (AllS.one hx) rfl (by show 1 ≤ 1000; decide) (fun x hx => by rw [List.mem_singleton] at hx; subst hx; exact SA.out.1) ((hEr.below hb6).below hb7))).mono ?_
        rintro e w8 h8
        obtain ⟨A8, n8, c8, er8, rfl, hn8, ho8, hbn⟩ := h8.lo
        have hl8 : n8 ≤ 100 := by rw [hn8]; exact cat_len
        unfold OwnS at ho8
        rw [← hn8] at ho8
        have hb8 := hbn
        clear h8 hn8 hbn
        replace hx := hx.below hb8
        go_wp2_with fail
        refine (pick_any _ a 1 w8 hx SA.out.1 (by decide)).mono ?_
        rintro e w9 ⟨v9, rfl, ho9, hb9⟩
        obtain ⟨A9, c9, he9, _⟩ := ho9.rd
        subst he9
        have hl9 := pickL_len a 1
        unfold OwnS at ho9
        generalize (pickL a 1).length = n9 at *
        have k6 := (own_below (own_below (own_below ho6 hb7) hb8) hb9)
        have k7 := (own_below (own_below ho7 hb8) hb9)
        have k8 := (own_below ho8 hb9)
        have g6 := ho6.lt
        have g7 := ho7.lt
        have g8 := ho8.lt
        have g9 := ho9.lt
        have z6 := hb6.size
        have z7 := hb7.size
        have z8 := hb8.size
        have z9 := hb9.size
        have hbA : Below wo.heap.size wo w9 := ((hb6.trans (hb7.mono z6)).trans (hb8.mono (by omega))).trans (hb9.mono (by omega))
        clear ho6 ho7 ho8 hb6 hb7 hb8 hb9 hx hy hEr
        go_upto_region 13 with (fail)
        go_wp2_with (at_builtin; first
          | (refine wpList_push_at rfl _ _ _ rfl Tryd.underlying22 hi hz0 hz1 hz2 rfl (by decide) r9 rfl rfl rfl (by simp [Value.oneCell']) (by omega) (by decide) (by omega) ?_; intro A13 c13 w13 ho13 hg13 hp13; have g13 := ho13.lt; have z13 := hg13.size; have hbD := hbC.grown hg13 (by omega) (fun k hk => by have := g9 k hk; omega); have s10 := r10.kept hg13 (blk_apart fun g k hg hk => by have e1 := g9 k hk; rcases hp10 g hg with e | e; (have e2 := g6 g e; omega); omega); have s11 := r11.kept hg13 (blk_apart fun g k hg hk => by have e1 := g9 k hk; rcases hp11 g hg with e | e; (have e2 := g7 g e; omega); omega); have s12 := ho12.kept hg13 (blk_apart fun g k hg hk => by have e1 := g9 k hk; rcases hp12 g hg with e | e; (have e2 := g8 g e; omega); omega))
          | (refine wpList_push_at rfl _ _ _ rfl Tryd.underlying22 hi hz0 hz1 hz2 rfl (by decide) p8 rfl rfl rfl (by simp [Value.oneCell']) (by omega) (by decide) (by omega) ?_; intro A12 c12 w12 ho12 hg12 hp12; have z12 := hg12.size; have hbC := hbB.grown hg12 (by omega) (fun k hk => by have := g8 k hk; omega); have r10 := p10.kept hg12 (blk_apart fun g k hg hk => by have e1 := g8 k hk; rcases hp10 g hg with e | e; (have e2 := g6 g e; omega); omega); have r11 := ho11.kept hg12 (blk_apart fun g k hg hk => by have e1 := g8 k hk; rcases hp11 g hg with e | e; (have e2 := g7 g e; omega); omega); have r9 := p9.kept hg12 (blk_apart fun g k hg hk => by have e1 := g8 k hk; have e2 := g9 g hg; omega))
          | (refine wpList_push_at rfl _ _ _ rfl Tryd.underlying22 hi hz0 hz1 hz2 rfl (by decide) m7 rfl rfl rfl (by simp [Value.oneCell']) (by omega) (by decide) (by omega) ?_; intro A11 c11 w11 ho11 hg11 hp11; have z11 := hg11.size; have hbB := hbB0.grown hg11 (by omega) (fun k hk => by have := g7 k hk; omega); have p10 := ho10.kept hg11 (blk_apart fun g k hg hk => by have e1 := g7 k hk; rcases hp10 g hg with e | e; (have e2 := g6 g e; omega); omega); have p8 := m8.kept hg11 (blk_apart fun g k hg hk => by have e1 := g7 k hk; have e2 := g8 g hg; omega); have p9 := m9.kept hg11 (blk_apart fun g k hg hk => by have e1 := g7 k hk; have e2 := g9 g hg; omega))
          | (refine wpList_push_at rfl _ _ _ rfl Tryd.underlying22 hi hz0 hz1 hz2 rfl (by decide) k6 rfl rfl rfl (by simp [Value.oneCell']) (by omega) (by decide) (by omega) ?_; intro A10 c10 w10 ho10 hg10 hp10; have z10 := hg10.size; have hbB0 := hbA.grown hg10 (by omega) (fun k hk => by have := g6 k hk; omega); have m7 := k7.kept hg10 (blk_apart fun g k hg hk => by have e1 := g6 k hk; have e2 := g7 g hg; omega); have m8 := k8.kept hg10 (blk_apart fun g k hg hk => by have e1 := g6 k hk; have e2 := g8 g hg; omega); have m9 := ho9.kept hg10 (blk_apart fun g k hg hk => by have e1 := g6 k hk; have e2 := g9 g hg; omega)))
        obtain ⟨vs, hvs⟩ : ∃ vs : List Value, vs = [.slice A10 (n6 + 1) c10, .slice A11 (n7 + 1) c11, .slice A12 (n8 + 1) c12, .slice A13 (n9 + 1) c13] := ⟨_, rfl⟩
        have HW := Lib.hid (show ∀ u ∈ vs, Wr w13 wo.heap.size u by
          intro u hu
          rw [hvs] at hu
          simp only [List.mem_cons, List.not_mem_nil, or_false] at hu
          rcases hu with rfl | rfl | rfl | rfl
          · exact Wr.of s10 rfl (by omega) (by omega)
          · exact Wr.of s11 rfl (by omega) (by omega)
          · exact Wr.of s12 rfl (by omega) (by omega)
          · exact Wr.of ho13 rfl (by omega) (by omega))
        have HK := Lib.hid (show ∀ u ∈ vs, ∀ g, u.ownBlock = some g → g < w13.heap.size by
          intro u hu
          rw [hvs] at hu
          simp only [List.mem_cons, List.not_mem_nil, or_false] at hu
          rcases hu with rfl | rfl | rfl | rfl
          · exact fun g hg => (s10.lt g hg).2
          · exact fun g hg => (s11.lt g hg).2
          · exact fun g hg => (s12.lt g hg).2
          · exact fun g hg => (g13 g hg).2)
        have hbE := hbD.alloc (by omega) (.cells #[.slice A10 (n6 + 1) c10, .slice A11 (n7 + 1) c11, .slice A12 (n8 + 1) c12, .slice A13 (n9 + 1) c13] 22)
        have HB0 := Lib.hid (Blk.new w13 22 #[.slice A10 (n6 + 1) c10, .slice A11 (n7 + 1) c11, .slice A12 (n8 + 1) c12, .slice A13 (n9 + 1) c13])
        have HWA := Lib.hid (show ∀ u ∈ vs, Wr (w13.alloc (.cells #[.slice A10 (n6 + 1) c10, .slice A11 (n7 + 1) c11, .slice A12 (n8 + 1) c12, .slice A13 (n9 + 1) c13] 22)) wo.heap.size u from fun u hu => (HW.out u hu).below (below1 w13 _))
        have HVS := Lib.hid hvs
        clear hvs HW s10 s11 s12 ho13 g6 g7 g8 g9 g13 hp10 hp11 hp12 hp13 hbA hbB0 hbB hbC m7 m8 m9 p8 p9 p10 r9 r10 r11 ho10 ho11 ho12 ho9 k6 k7 k8 hg10 hg11 hg12 hg13
        generalize w13.alloc (.cells #[.slice A10 (n6 + 1) c10, .slice A11 (n7 + 1) c11, .slice A12 (n8 + 1) c12, .slice A13 (n9 + 1) c13] 22) = w14 at *
        obtain ⟨cs, hcs⟩ : ∃ cs : Array Value, cs = #[.slice A10 (n6 + 1) c10, .slice A11 (n7 + 1) c11, .slice A12 (n8 + 1) c12, .slice A13 (n9 + 1) c13] := ⟨_, rfl⟩
        rw [← hcs] at HB0
        have HCS := Lib.hid (show ∀ k, k < 4 → ∃ u, cs[k]? = some u ∧ u ∈ vs by
          intro k hk
          rw [hcs, HVS.out]
          match k, hk with
          | 0, _ => exact ⟨_, rfl, by simp⟩
          | 1, _ => exact ⟨_, rfl, by simp⟩
          | 2, _ => exact ⟨_, rfl, by simp⟩
          | 3, _ => exact ⟨_, rfl, by simp⟩)
        clear hcs HVS
        obtain ⟨K, hK⟩ : ∃ K, K = w13.heap.size := ⟨_, rfl⟩
        rw [← hK] at HB0 HK ⊢
        have hKB : wo.heap.size ≤ K := by omega
        clear hK z6 z7 z8 z9 z10 z11 z12 z13 hbD
        have HBR := Lib.hid hbr
        clear hbr
        go_wp2_with fail
        go_loopw [88] (fun i wq => ∃ k : Nat, k ≤ 4 ∧ i = .int .i64 k ∧ Hid (∀ u ∈ vs, Wr wq wo.heap.size u) ∧ Hid (Blk wq K 22 cs) ∧ Below wo.heap.size wo wq) (fun i _ => 4 - (intOf i).toNat)
        case atStart => exact ⟨0, Nat.zero_le _, rfl, HWA, HB0, hbE⟩
        case round =>
          clear HWA HB0 hbE
          obtain ⟨k, hk, rfl, HWQ, HBQ, hbq⟩ := hrel
          generalize wr = wm at *
          by_cases hlk : k < 4
          · obtain ⟨u, hu, hmem⟩ := HCS.out k hlk
            have cu := HBQ.out.cell k
            rw [hu] at cu
            have HM := Lib.hid hmem
            obtain ⟨A, n, c, xs, rfl, hn, _⟩ := HWQ.out u hmem
            clear hmem hu
            go_upto_region 17 with (fail)
            go_loopw [18] (fun i wz => ∃ j : Nat, j ≤ n ∧ i = .int .i64 j ∧ Hid (∀ u ∈ vs, Wr wz wo.heap.size u) ∧ Hid (Blk wz K 22 cs) ∧ Below wo.heap.size wo wz) (fun i _ => n - (intOf i).toNat)
            case atStart => exact ⟨0, Nat.zero_le _, rfl, HWQ, HBQ, hbq⟩
            case round =>
              clear HWQ HBQ hbq cu
              obtain ⟨j, hj, rfl, HWZ, HBZ, hbz⟩ := hrel
              by_cases hlj : j < n
              · obtain ⟨A', n', c', ys, he, _, ho⟩ := HWZ.out _ HM.out
                injection he with he1 he2 he3
                subst he1 he2 he3
                rcases ho.2 with ⟨he, h0⟩ | ⟨g, cap, cur, he, hBg, _⟩
                · omega
                injection he with he1 _ he3
                subst he1 he3
                have hgK := HK.out _ HM.out g rfl
                have hyl := ho.1
                have cj := ho.cellAt j (by omega)
                rw [List.getElem?_eq_getElem (by omega)] at cj
                have fj := ho.frozenAt j
                have HWS := Lib.hid (show ∀ u ∈ vs, Wr (wr.setCell ⟨g, j, none⟩ (.string ⟨#[115, 112, 111, 105, 108, 116]⟩)) wo.heap.size u from fun u hu => (HWZ.out u hu).stored ho)
                have HBS := Lib.hid (HBZ.out.other (p := ⟨g, j, none⟩) (by show g ≠ K; omega) (.string ⟨#[115, 112, 111, 105, 108, 116]⟩))
                have hbs := hbz.setCell (p := ⟨g, j, none⟩) hBg (.string ⟨#[115, 112, 111, 105, 108, 116]⟩)
                clear HWZ HBZ hbz ho
                go_wp2_with fail
                go_roundw
                case rel => exact ⟨j + 1, by omega, by go_num, HWS, HBS, hbs⟩
                case measure => simp [intOf]; omega
              · obtain rfl : j = n := by omega
                clear hlj
                go_wp2_with fail
                go_roundw
                case rel => exact ⟨k + 1, by omega, by go_num, HWZ, HBZ, hbz⟩
                case measure => simp [intOf]; omega
          · obtain rfl : k = 4 := by omega
            have hbr2 := HBR.out.trans (hbq.mono HBR.out.size)
            clear HWQ HBQ hbq
            go_wp2_with fail
            go_roundw
            case rel => exact ⟨r + 1, by omega, by go_num, hbr2⟩
            case measure => simp [intOf]; omega
      · obtain rfl : r = 2 := by omega
        have hz := cell_keep hbr hz4
        clear hbr hx4 hy5 hz4 hlt
        have K := Lib.hid (sameTexts_v (.slice (some ⟨g4, 0, none⟩) na c4) (.slice Aa na ca) _ _ _ hx (hva.below hbw) SA.out.1 SA.out.1)
        rw [decide_eq_true rfl] at K
        go_wp2_with fail
        refine K.out.mono ?_
        clear K
        rintro e w16 ⟨rfl, hbn⟩
        replace hbw := hbw.trans (hbn.mono hbw.size)
        replace hy := hy.below hbn
        replace hz := cell_keep hbn hz
        clear hbn hx
        have K := Lib.hid (sameTexts_v (.slice A5 nb c5) (.slice Ab nb cb) _ _ _ hy (hvb.below hbw) SB.out.1 SB.out.1)
        rw [decide_eq_true rfl] at K
        go_wp2_with fail
        refine K.out.mono ?_
        clear K
        rintro e w17 ⟨rfl, hbn⟩
        replace hbw := hbw.trans (hbn.mono hbw.size)
        replace hz := cell_keep hbn hz
        have hcap6 := hcap4.1
        clear hbn hy
        go_wp2_with fail
        go_ret
        exact ⟨rfl, hbw⟩
end Go.Proofs.YtckcpokfjofcaaaDoor
