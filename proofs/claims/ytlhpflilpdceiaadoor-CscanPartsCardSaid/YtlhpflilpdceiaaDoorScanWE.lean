/- The walk over package cscan's Brace. Bounds on the lengths. -/
import Derived.Test.YtlhpflilpdceiaaDoorScanWD
set_option linter.unusedVariables false
set_option linter.unusedSimpArgs false
namespace Go.Proofs.YtlhpflilpdceiaaDoor
open Go.RowKit

def brV (L : List UInt8) : Value := .tuple #[.string ⟨(braceT L).1.toArray⟩, .bool (braceT L).2]
set_option maxRecDepth 100000 in
set_option maxHeartbeats 4000000 in
theorem cbrace_any (s : ByteArray) (Ls : List Addr) (w : World) (hE : SenW w Ls) (hs : s.size ≤ 4000) : Calls Tryd.prog 14 #[.string s] w (Ret w (brV s.data.toList)) := by
  obtain ⟨s2, hs2⟩ : ∃ s2 : ByteArray, s2 = (⟨#[123]⟩ ++ s) ++ ⟨#[125]⟩ := ⟨_, rfl⟩
  have hl2 : s2.data.toList = 123 :: (s.data.toList ++ [125]) := by rw [hs2]; simp
  have hz2 : s2.size = s.size + 2 := by
    have := congrArg List.length hl2
    simpa using this
  have H1 := Lib.hid (one_any s2 Ls w hE (by omega))
  rw [hl2] at H1
  have HS2 := Lib.hid hs2
  have HL2 := Lib.hid hl2
  obtain ⟨L, hL⟩ : ∃ L, L = s.data.toList := ⟨_, rfl⟩
  rw [← hL] at H1 ⊢
  have HL := Lib.hid hL
  obtain ⟨V, hV⟩ : ∃ V, V = brV L := ⟨_, rfl⟩
  rw [← hV]
  have HV := Lib.hid hV
  clear hE hs2 hl2 hz2 hL hV
  go_enter Tryd.func14, Tryd.ntmps14
  go_wp2_with fail
  rw [← HS2.out]
  refine H1.out.mono ?_
  rintro e w1 ⟨x, v, b, rfl, hO, hb1, h1⟩
  have hk := Blk.new w1 36 #[.int .i64 x.pos, .bool x.braced, v]
  obtain ⟨A1, c1, hv1, -, -, -, -⟩ := own_form hO
  subst hv1
  have hbl : Below w1.heap.size w1 (w1.alloc (.cells #[.int .i64 x.pos, .bool x.braced, .slice A1 x.parts.length c1] 36)) := (Below.refl _ _).alloc (Nat.le_refl _) _
  have HT := Lib.hid (ctext_any x _ _ (hO.below hbl).rd)
  have HB := Lib.hid (hb1.trans (hbl.mono hb1.size))
  have HK := Lib.hid hk
  have HN1 := Lib.hid h1
  clear hk hbl hO hb1 h1 H1
  go_upto_region 3 with (fail)
  obtain ⟨K, hK⟩ : ∃ K, K = w1.heap.size := ⟨_, rfl⟩
  rw [← hK] at HK ⊢
  generalize w1.alloc (.cells #[.int .i64 x.pos, .bool x.braced, .slice A1 x.parts.length c1] 36) = wk at *
  have k0 := HK.out.cell 0
  have k1 := HK.out.cell 1
  have k2 := HK.out.cell 2
  simp only [List.getElem?_toArray, List.getElem?_cons_zero, List.getElem?_cons_succ] at k0 k1 k2
  obtain ⟨g, hg⟩ : ∃ g : ByteArray, g = ⟨(textW x).1.toArray⟩ := ⟨_, rfl⟩
  have HG := Lib.hid (show (textW x).1 = g.data.toList by rw [hg])
  rw [← hg] at HT
  obtain ⟨tb, htb⟩ : ∃ tb, tb = (textW x).2 := ⟨_, rfl⟩
  have HTB := Lib.hid htb
  rw [← htb] at HT
  obtain ⟨br, hbr⟩ : ∃ br, br = x.braced := ⟨_, rfl⟩
  have HBR := Lib.hid hbr
  rw [← hbr] at HT HK k1 ⊢
  clear hK hg htb hbr
  go_wp2_with fail
  refine HT.out.mono ?_
  rintro e w5 ⟨rfl, hb5⟩
  have k1 := cell_keep hb5 k1
  have HB5 := Lib.hid (HB.out.trans (hb5.mono HB.out.size))
  clear hb5 HT HB
  have HVN := Lib.hid (show (b = false ∨ tb = false ∨ br = false ∨ ¬ g = s) → V = .tuple #[.string { data := #[] }, .bool false] from fun h => by
    rw [HV.out]
    unfold brV braceT
    rw [HN1.out]
    cases b with
    | false => rfl
    | true =>
      simp only [if_true]
      rw [if_neg]
      rintro ⟨h2, h3⟩
      rcases h with h | h | h | h
      · cases h
      · rw [HTB.out, h2] at h; cases h
      · rw [HBR.out, h3] at h; cases h
      · exact h (ByteArray.ext (by
          have h4 := HG.out
          rw [h2, HL.out] at h4
          exact (Array.ext' h4).symm)))
  have HVY := Lib.hid (show b = true → tb = true → br = true → g = s → V = .tuple #[.string s2, .bool true] from fun h2 h3 h4 h5 => by
    rw [HV.out]
    unfold brV braceT
    rw [HN1.out, h2]
    simp only [if_true]
    rw [if_pos ⟨Prod.ext (by rw [HG.out, h5, HL.out]) (by rw [← HTB.out, h3]), by rw [← HBR.out, h4]⟩]
    have : s2 = ⟨(123 :: (L ++ [125])).toArray⟩ := ByteArray.ext (Array.ext' (by rw [HL2.out, HL.out]))
    rw [this])
  cases b with
  | false =>
    have hV := Lib.hid (HVN.out (.inl rfl))
    clear HVN HVY HN1
    go_wp2_with fail
    go_ret2
    rw [hV.out]
    exact ⟨rfl, HB5.out⟩
  | true =>
    cases tb with
    | false =>
      have hV := Lib.hid (HVN.out (.inr (.inl rfl)))
      clear HVN HVY HN1
      go_wp2_with fail
      go_ret2
      rw [hV.out]
      exact ⟨rfl, HB5.out⟩
    | true =>
      cases br with
      | false =>
        have hV := Lib.hid (HVN.out (.inr (.inr (.inl rfl))))
        clear HVN HVY HN1
        go_wp2_with fail
        go_ret2
        rw [hV.out]
        exact ⟨rfl, HB5.out⟩
      | true =>
        by_cases hg : g = s
        · have hV := Lib.hid (HVY.out rfl rfl rfl hg)
          subst hg
          clear HVN HVY HN1
          go_wp2_with fail
          go_ret2
          rw [hV.out]
          exact ⟨rfl, HB5.out⟩
        · have hV := Lib.hid (HVN.out (.inr (.inr (.inr hg))))
          have he : (g.toList == s.toList) = false := by
            rw [beq_eq_false_iff_ne, Lib.toList_data, Lib.toList_data]
            exact fun h => hg (ByteArray.ext (Array.ext' h))
          clear HVN HVY HN1
          go_wp2_with fail
          go_ret2
          rw [hV.out]
          exact ⟨rfl, HB5.out⟩
end Go.Proofs.YtlhpflilpdceiaaDoor
