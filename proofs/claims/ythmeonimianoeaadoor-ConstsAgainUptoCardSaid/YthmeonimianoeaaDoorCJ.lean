/- The walks over consts.spread, consts.cat. Bounds on the lengths. -/
import Derived.Test.YthmeonimianoeaaDoorConW4
import Derived.Test.YthmeonimianoeaaDoorHasW
set_option linter.unusedVariables false
set_option linter.unusedSimpArgs false
namespace Go.Proofs.YthmeonimianoeaaDoor
open Go.RowKit

set_option maxRecDepth 100000 in
set_option maxHeartbeats 8000000 in
theorem cspread_any (P : Tr → Prop) (hP : Opens P) (B : Nat) (A : Option Addr) (m c : Nat) (ks : List Tr) (w : World) (hB : B ≤ w.heap.size) (hz : sizeL ks ≤ 1000000) (hp : ∀ t ∈ ks, P t) (hrow : RowO w B A m c ks) :
    Calls Tryd.prog 103 #[.slice A m c] w (RowTRet B (spr (sizeL ks) ks) w) := by
  obtain ⟨i0, hi, hz0, hz1, hz2⟩ := info_parts infoNodes
  have HB := Lib.hid hB
  have HPO := Lib.hid hP
  obtain ⟨S, hS⟩ : ∃ S, S = spr (sizeL ks) ks := ⟨_, rfl⟩
  rw [← hS]
  have HROW := Lib.hid hrow
  obtain ⟨N0, hN0⟩ : ∃ N0, N0 = sizeL ks + 1 := ⟨_, rfl⟩
  have hst : Hid (∃ n, sizeL ks ≤ n ∧ n + 1 ≤ N0 ∧ spr n ks = S) := Lib.hid ⟨sizeL ks, Nat.le_refl _, by omega, hS.symm⟩
  have HZ := Lib.hid hz
  have HPP := Lib.hid hp
  clear hP hB hrow hp hS hz hN0
  go_enter Tryd.func103, Tryd.ntmps103
  go_wp2_with fail
  go_loopg [0, 3] N0 (fun g v u wr => ∃ (A : Option Addr) (m c : Nat) (ks : List Tr) (cf : Bool), v = .slice A m c ∧ u = .bool cf ∧ Hid (RowO wr B A m c ks) ∧ Hid (∀ t ∈ ks, P t) ∧ Hid (sizeL ks ≤ 1000000) ∧ Hid (if cf = true then ∃ n, sizeL ks ≤ n ∧ n + 1 ≤ g ∧ spr n ks = S else ks = S) ∧ Below w.heap.size w wr)
  case atStart => exact ⟨A, m, c, ks, true, rfl, rfl, HROW, HPP, HZ, Lib.hid (by rw [if_pos rfl]; exact hst.out), Below.refl _ _⟩
  case round =>
    clear hst HZ HPP HROW
    obtain ⟨A, m, c, ks, cf, rfl, rfl, HR, HPK, HZ, HK, hb⟩ := hrel
    cases cf
    · go_wp2_with fail
      go_ret
      have h := HK.out
      rw [if_neg Bool.noConfusion] at h
      subst h
      exact ⟨A, m, c, rfl, HR.out, hb⟩
    · obtain ⟨n, n1, n2, n3⟩ : ∃ n, sizeL ks ≤ n ∧ n + 1 ≤ gk ∧ spr n ks = S := by have h := HK.out; rw [if_pos rfl] at h; exact h
      have HNN := Lib.hid (And.intro n1 n3)
      have hgk : 1 ≤ gk := by omega
      have hnk : n ≤ gk - 1 := by omega
      have hml := HR.out.len
      have hm6 : m ≤ 1000000 := by have := sizeL_len ks; have := HZ.out; omega
      have hs1 := spr1_size 0 ks
      have HS1 := Lib.hid hs1
      have hl1 := sizeL_len (spr1 0 ks)
      have HN2 := Lib.hid (show (spr1 0 ks).length ≤ 1000000 by have := HZ.out; omega)
      have HML := Lib.hid hml
      have HW0 := Lib.hid hb
      have HBB := Lib.hid (show B ≤ wr.heap.size from Nat.le_trans HB.out hb.size)
      have HW1 := Lib.hid (show wr.heap.size ≤ wr.heap.size from Nat.le_refl _)
      clear n1 n2 n3 HK hml hs1 hl1 hb
      generalize wr = w1 at *
      go_wp2_with fail
      go_loopw [3, 4, 10] (fun u v i w2 => ∃ (k q : Nat) (A' : Option Addr) (c' : Nat) (us : List Value) (out : List Tr) (cf : Bool), k ≤ m ∧ i = .int .i64 k ∧ v = .slice A' q c' ∧ u = .bool cf ∧ Hid (q = out.length) ∧
          w2.ownsRow w1.heap.size 23 1 (.slice A' q c') q us ∧ OwnAll w2 B us (out.map flat) ∧ Hid (out ++ spr1 k (ks.drop k) = spr1 0 ks) ∧ Hid ((cf || chg k (ks.drop k)) = chg 0 ks) ∧ Below w1.heap.size w1 w2) (fun _ _ i _ => m - (intOf i).toNat)
      case atStart => exact ⟨0, 0, none, 0, [], [], false, Nat.zero_le _, rfl, rfl, rfl, rfl, World.ownsRow_nil _ _ _ _, OwnAll.nil _ _, Lib.hid (by simp), Lib.hid (by simp), Below.refl _ _⟩
      case round =>
        obtain ⟨k, q, A', c', us, out, cf, hk, rfl, rfl, rfl, HQ, hown, hall, HO, HCF, hbx⟩ := hrel
        by_cases hlt : k < m
        · have hkU : k < ks.length := by rw [← HML.out]; exact hlt
          obtain ⟨b1, o1, At, n1, c1, rfl, -, cc1, own1⟩ := (HR.out.below hbx).at_ hkU
          have hdr := List.drop_eq_getElem_cons hkU
          have htl : (flat ks[k]).length ≤ 1000000 := by have := flatAll_mem_le ks k hkU; have := HZ.out; unfold sizeL at this; omega
          obtain ⟨t, ht⟩ : ∃ t, t = ks[k] := ⟨_, rfl⟩
          rw [← ht] at own1 hdr htl
          have hsp : spr1 k (ks.drop k) = (if catB k t then t.kids else [t]) ++ spr1 (k + 1) (ks.drop (k + 1)) := by rw [hdr, spr1]
          have hcg : chg k (ks.drop k) = (catB k t || chg (k + 1) (ks.drop (k + 1))) := by rw [hdr, chg]
          obtain ⟨b3, o3, rfl, h03, hn1, -, -, e0, -, -, -, -⟩ := head_cells own1.rd
          have HN2 := Lib.hid (show (out ++ spr1 k (ks.drop k)).length ≤ 1000000 by rw [HO.out]; exact HN2.out)
          have HL1 := Lib.hid (OwnAll.one own1.own')
          have KC := Lib.hid (fun W (hW : Below wr.heap.size wr W) => show Calls Tryd.prog 51 #[.slice (some ⟨b3, o3, none⟩) n1 c1] W (KidsRet (t.kids.map flat) W) by rw [← kidsL_tree]; exact kids_any _ _ W (own1.below hW).rd (by omega))
          have hqb : q + 1 ≤ 1000001 := by
            have h := HN2.out
            rw [List.length_append, ← HQ.out] at h
            omega
          have hbk := Below.refl wr.heap.size wr
          by_cases h3 : t.kind = 3
          · rw [h3] at e0
            have hk3 : (t.kind == 3) = true := by rw [h3]; rfl
            rcases Nat.eq_zero_or_pos k with h0 | h0
            · subst h0
              have hcb : catB 0 t = true := by simp [catB, hk3]
              have HSP := Lib.hid (show spr1 0 (ks.drop 0) = t.kids ++ spr1 (0 + 1) (ks.drop (0 + 1)) by rw [hsp, if_pos hcb])
              have HCG := Lib.hid (show chg 0 (ks.drop 0) = true by rw [hcg, hcb]; rfl)
              simp only [Nat.add_zero] at cc1
              clear hsp hcg hdr hkU ht htl own1 hk3 hcb hn1 h3
              go_wp2_with fail
              refine (KC.out _ hbk).mono ?_
              rintro e w5 ⟨A5, c5, vs5, rfl, ho5, hl5, hb5⟩
              have hl5n : (t.kids.map flat).length = vs5.length := hl5.1.symm
              obtain ⟨hr5, hA5, hsp5⟩ := rd_one ho5 hl5n
              have hown5 := own_below hown hb5
              have hall5 := hall.below hb5
              have hb15 := hbx.trans (hb5.mono hbx.size)
              have H5 := Lib.hid (show OwnAll w5 B vs5 (t.kids.map flat) from hl5.mono (Nat.le_trans HBB.out (Nat.le_trans HW1.out hbx.size)))
              rw [hl5n]
              have HLN := Lib.hid hl5n
              have HC5 := Lib.hid (show ∀ y, y ∈ vs5 → ∀ u ∈ one1 y, u.oneCell' = true from fun y hy u hu => by simp [one1] at hu; subst hu; exact hl5.cells _ hy)
              have hn2 : q + vs5.length ≤ 1000000 := by
                have h := HN2.out
                rw [HSP.out, List.length_append, List.length_append, ← HQ.out] at h
                rw [List.length_map] at hl5n
                omega
              clear hl5n hl5 ho5
              go_wp2_with (at_builtin; refine wpList_pushMem (enc := one1) rfl _ _ _ rfl Tryd.underlying26 hi hz0 hz1 hz2 rfl (by decide) hown5 rfl rfl rfl hr5 hA5 hsp5 one1_len HC5.out (by omega) (by decide) hb15.size ?_; intro A4 c4' w4 hown4 hb4 hoo4)
              go_roundw
              case rel =>
                rw [one1_flat] at hown4
                refine ⟨0 + 1, q + vs5.length, A4, c4', us ++ vs5, out ++ t.kids, true, by omega, by go_num, rfl, rfl, Lib.hid (by rw [List.length_append, ← HQ.out, ← HLN.out, List.length_map]), hown4, ?_, Lib.hid ?_, Lib.hid ?_, hb15.trans hb4⟩
                · rw [List.map_append]
                  exact (hall5.others hoo4 (by decide)).append (H5.out.others hoo4 (by decide))
                · rw [← HO.out, HSP.out, List.append_assoc]
                · rw [← HCF.out, HCG.out]
                  simp
              case measure => simp [intOf]; omega
            · have hki : ((k : Int) == 0) = false := by rw [beq_eq_false_iff_ne]; omega
              have hkn : (k == 0) = false := by rw [beq_eq_false_iff_ne]; omega
              obtain ⟨W0, hW0⟩ : ∃ W0, W0 = wr.alloc (.cells #[.int .i64 12] 3) := ⟨_, rfl⟩
              have hb0 : Below wr.heap.size wr W0 := by rw [hW0]; exact (Below.refl _ _).alloc (Nat.le_refl _) _
              have HC := Lib.hid (has_any (some ⟨b3, o3, none⟩) c1 n1 (flat t) (some ⟨wr.heap.size, 0, none⟩) 1 1 [12] W0 hn1 rfl (by
                obtain ⟨_, _, he, hr, _⟩ := own1.rd
                injection he with he _ _
                rw [he]
                exact hr.below hb0) (by omega) (by rw [hW0]; exact ints_lit wr [12]) (by decide))
              rw [show ((flat t).any fun x => ([12] : List Int).contains x.kind) = hasSub t from rfl] at HC
              have hcb : catB k t = !hasSub t := by simp [catB, hk3, hkn]
              obtain ⟨hs, hhs⟩ : ∃ hs, hasSub t = hs := ⟨_, rfl⟩
              rw [hhs] at HC hcb
              have HW0 := Lib.hid hW0
              have HB0 := Lib.hid hb0
              cases hs
              · have HSP := Lib.hid (show spr1 k (ks.drop k) = t.kids ++ spr1 (k + 1) (ks.drop (k + 1)) by rw [hsp, hcb]; rfl)
                have HCG := Lib.hid (show chg k (ks.drop k) = true by rw [hcg, hcb]; rfl)
                clear hsp hcg hdr hkU ht htl own1 hk3 hcb hn1 h3 hhs hkn hW0 hb0
                go_wp2_with fail
                rw [← HW0.out]
                refine HC.out.mono ?_
                rintro e w3 ⟨rfl, hb3⟩
                have hbk := HB0.out.trans (hb3.mono HB0.out.size)
                have hown := own_below hown hbk
                have hall := hall.below hbk
                have hbx := hbx.trans (hbk.mono hbx.size)
                go_wp2_with fail
                refine (KC.out _ hbk).mono ?_
                rintro e w5 ⟨A5, c5, vs5, rfl, ho5, hl5, hb5⟩
                have hl5n : (t.kids.map flat).length = vs5.length := hl5.1.symm
                obtain ⟨hr5, hA5, hsp5⟩ := rd_one ho5 hl5n
                have hown5 := own_below hown hb5
                have hall5 := hall.below hb5
                have hb15 := hbx.trans (hb5.mono hbx.size)
                have H5 := Lib.hid (show OwnAll w5 B vs5 (t.kids.map flat) from hl5.mono (Nat.le_trans HBB.out (Nat.le_trans HW1.out hbx.size)))
                rw [hl5n]
                have HLN := Lib.hid hl5n
                have HC5 := Lib.hid (show ∀ y, y ∈ vs5 → ∀ u ∈ one1 y, u.oneCell' = true from fun y hy u hu => by simp [one1] at hu; subst hu; exact hl5.cells _ hy)
                have hn2 : q + vs5.length ≤ 1000000 := by
                  have h := HN2.out
                  rw [HSP.out, List.length_append, List.length_append, ← HQ.out] at h
                  rw [List.length_map] at hl5n
                  omega
                clear hl5n hl5 ho5
                go_wp2_with (at_builtin; refine wpList_pushMem (enc := one1) rfl _ _ _ rfl Tryd.underlying26 hi hz0 hz1 hz2 rfl (by decide) hown5 rfl rfl rfl hr5 hA5 hsp5 one1_len HC5.out (by omega) (by decide) hb15.size ?_; intro A4 c4' w4 hown4 hb4 hoo4)
                go_roundw
                case rel =>
                  rw [one1_flat] at hown4
                  refine ⟨k + 1, q + vs5.length, A4, c4', us ++ vs5, out ++ t.kids, true, by omega, by go_num, rfl, rfl, Lib.hid (by rw [List.length_append, ← HQ.out, ← HLN.out, List.length_map]), hown4, ?_, Lib.hid ?_, Lib.hid ?_, hb15.trans hb4⟩
                  · rw [List.map_append]
                    exact (hall5.others hoo4 (by decide)).append (H5.out.others hoo4 (by decide))
                  · rw [← HO.out, HSP.out, List.append_assoc]
                  · rw [← HCF.out, HCG.out]
                    simp
                case measure => simp [intOf]; omega
              · have HSP := Lib.hid (show spr1 k (ks.drop k) = [t] ++ spr1 (k + 1) (ks.drop (k + 1)) by rw [hsp, hcb]; rfl)
                have HCG := Lib.hid (show chg k (ks.drop k) = (false || chg (k + 1) (ks.drop (k + 1))) by rw [hcg, hcb]; rfl)
                clear hsp hcg hdr hkU ht htl own1 hk3 hcb hn1 h3 hhs hkn hW0 hb0
                go_wp2_with fail
                rw [← HW0.out]
                refine HC.out.mono ?_
                rintro e w3 ⟨rfl, hb3⟩
                have hbk := HB0.out.trans (hb3.mono HB0.out.size)
                have hown := own_below hown hbk
                have hall := hall.below hbk
                have hbx := hbx.trans (hbk.mono hbx.size)
                replace HL1 := Lib.hid (HL1.out.below hbk)
                go_wp2_with (at_builtin; refine wpList_push rfl _ _ _ rfl Tryd.underlying26 hi hz0 hz1 hz2 rfl (by decide) hown rfl rfl rfl (by simp [Value.oneCell']) (by omega) (by decide) hbx.size ?_; intro A4 c4 w4 hown4 hb4 hoo4)
                go_roundw
                case rel =>
                  refine ⟨k + 1, q + 1, A4, c4, us ++ [.slice (some ⟨b3, o3, none⟩) n1 c1], out ++ [t], cf, by omega, by go_num, rfl, rfl, Lib.hid (by rw [List.length_append, ← HQ.out]; rfl), by simpa using hown4, ?_, Lib.hid ?_, Lib.hid ?_, hbx.trans hb4⟩
                  · rw [List.map_append]
                    exact (hall.others hoo4 (by decide)).append (HL1.out.others hoo4 (by decide))
                  · rw [← HO.out, HSP.out]
                    simp
                  · rw [← HCF.out, HCG.out, Bool.false_or]
                case measure => simp [intOf]; omega
          · have hk3 : (t.kind == 3) = false := by rw [beq_eq_false_iff_ne]; exact h3
            have hcb : catB k t = false := by simp [catB, hk3]
            have HSP := Lib.hid (show spr1 k (ks.drop k) = [t] ++ spr1 (k + 1) (ks.drop (k + 1)) by rw [hsp, hcb]; rfl)
            have HCG := Lib.hid (show chg k (ks.drop k) = (false || chg (k + 1) (ks.drop (k + 1))) by rw [hcg, hcb])
            clear hsp hcg hdr hkU ht htl own1 hcb hn1 h3
            go_wp2_with (at_builtin; refine wpList_push rfl _ _ _ rfl Tryd.underlying26 hi hz0 hz1 hz2 rfl (by decide) hown rfl rfl rfl (by simp [Value.oneCell']) (by omega) (by decide) hbx.size ?_; intro A4 c4 w4 hown4 hb4 hoo4)
            go_roundw
            case rel =>
              refine ⟨k + 1, q + 1, A4, c4, us ++ [.slice (some ⟨b3, o3, none⟩) n1 c1], out ++ [t], cf, by omega, by go_num, rfl, rfl, Lib.hid (by rw [List.length_append, ← HQ.out]; rfl), by simpa using hown4, ?_, Lib.hid ?_, Lib.hid ?_, hbx.trans hb4⟩
              · rw [List.map_append]
                exact (hall.others hoo4 (by decide)).append (HL1.out.others hoo4 (by decide))
              · rw [← HO.out, HSP.out]
                simp
              · rw [← HCF.out, HCG.out, Bool.false_or]
            case measure => simp [intOf]; omega
        · obtain rfl : k = m := by omega
          have hde : ks.drop k = [] := List.drop_of_length_le (by rw [← HML.out]; exact Nat.le_refl _)
          rw [hde] at HO HCF
          have hou : out = spr1 0 ks := by have h := HO.out; rw [spr1, List.append_nil] at h; exact h
          have hcf : cf = chg 0 ks := by have h := HCF.out; rw [chg, Bool.or_false] at h; exact h
          have HRO := Lib.hid (RowO.of_own hown hall HQ.out)
          have HPO2 := Lib.hid (show ∀ u ∈ out, P u by rw [hou]; exact spr1_mem HPO.out 0 ks HPK.out)
          have HZ2 := Lib.hid (show sizeL out ≤ 1000000 by rw [hou]; have := HS1.out.1; have := HZ.out; omega)
          have HST := Lib.hid (show if cf = true then ∃ n, sizeL out ≤ n ∧ n + 1 ≤ gk - 1 ∧ spr n out = S else out = S by
            obtain ⟨g1, g3⟩ := HNN.out
            rw [hcf, hou]
            split
            · rename_i hc
              have := HS1.out.2 hc
              obtain ⟨n', rfl⟩ : ∃ n', n = n' + 1 := ⟨n - 1, by omega⟩
              rw [spr, if_pos hc] at g3
              exact ⟨n', by omega, by omega, g3⟩
            · rename_i hc
              rw [spr_id (by simpa using hc)] at g3
              rw [spr1_id 0 ks (by simpa using hc), g3])
          have hbw := HW0.out.trans (hbx.mono HW0.out.size)
          clear hown hall hde hou hcf
          go_wp2_with fail
          go_roundg (gk - 1)
          case measure => omega
          case rel => exact ⟨A', q, c', out, cf, rfl, rfl, HRO, HPO2, HZ2, HST, hbw⟩
end Go.Proofs.YthmeonimianoeaaDoor

/- The walk over consts.cat. Bounds on the lengths. -/
set_option linter.unusedVariables false
set_option linter.unusedSimpArgs false
namespace Go.Proofs.YthmeonimianoeaaDoor
open Go.RowKit

set_option maxHeartbeats 2000000 in
theorem ccat_any (P : Tr → Prop) (hP : Opens P) (B : Nat) (A : Option Addr) (m c : Nat) (ks : List Tr) (w : World) (hB : B ≤ w.heap.size) (hz : sizeL ks ≤ 1000000) (hp : ∀ t ∈ ks, P t) (hrow : RowO w B A m c ks) :
    Calls Tryd.prog 76 #[.slice A m c] w (OwnRet B (flat (catT ks)) w) := by
  have SC := Lib.hid (cspread_any P hP B A m c ks w hB hz hp hrow)
  obtain ⟨_, _, s3⟩ := spr_spec hP (sizeL ks) ks (Nat.le_refl _) hp
  have HE := Lib.hid (show catT ks = catO (spr (sizeL ks) ks) from rfl)
  generalize spr (sizeL ks) ks = F at *
  have hF : sizeL F ≤ 1000000 := by omega
  clear hP hp hrow s3
  go_enter Tryd.func76, Tryd.ntmps76
  go_wp2_with fail
  refine SC.out.mono ?_
  rintro e w1 ⟨A1, M, c1, rfl, hrow, hb⟩
  have HR := Lib.hid hrow
  have hml := hrow.len
  have hB1 := Nat.le_trans hB hb.size
  by_cases h1 : M = 1
  · subst h1
    obtain ⟨x, rfl⟩ := List.length_eq_one_iff.1 hml.symm
    obtain ⟨b, o, Ak, nk, ck, rfl, -, cc, own⟩ := hrow.at_ (k := 0) (by simp)
    simp only [List.getElem_cons_zero, Nat.add_zero] at cc own
    have HO := Lib.hid own
    clear own hrow hml
    go_wp2_with fail
    go_ret
    exact ⟨Ak, nk, ck, rfl, by rw [HE.out]; exact HO.out, hb⟩
  · have hne : catO F = .mk 3 0 [] F := catO_two fun x hx => h1 (by rw [hml, hx]; rfl)
    have HN := Lib.hid hne
    have hq : ((M : Int) == 1) = false := by rw [beq_eq_false_iff_ne]; omega
    have NC := Lib.hid (newT_any 3 0 [] A1 c1 M F w1 hrow.kd.kd hml (by unfold sizeL at hF; omega))
    clear hrow hml hne h1
    go_wp2_with fail
    refine NC.out.mono ?_
    rintro e w2 ⟨A2, n2, c2, rfl, o2, hb2⟩
    have O2 := Lib.hid (o2.mono hB1)
    have hb12 := hb.trans (hb2.mono hb.size)
    clear o2
    go_wp2_with fail
    go_ret
    exact ⟨A2, n2, c2, rfl, by rw [HE.out, HN.out]; exact O2.out, hb12⟩
end Go.Proofs.YthmeonimianoeaaDoor
