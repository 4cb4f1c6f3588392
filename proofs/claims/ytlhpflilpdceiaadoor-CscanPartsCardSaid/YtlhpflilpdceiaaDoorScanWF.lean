/- The walk over package cscan's Quote. Bounds on the lengths. -/
import Derived.Test.YtlhpflilpdceiaaDoorScanWE
import Derived.Test.YtlhpflilpdceiaaDoorPatW2
set_option linter.unusedVariables false
set_option linter.unusedSimpArgs false
namespace Go.Proofs.YtlhpflilpdceiaaDoor
open Go.RowKit

theorem quoE_snoc (l : List UInt8) (c : UInt8) : quoE (l ++ [c]) = quoE l ++ (if c = 34 ∨ c = 92 ∨ c = 36 ∨ c = 91 then [92, c] else [c]) := by
  induction l with
  | nil =>
    simp only [List.nil_append, quoE]
  | cons d t ih =>
    simp only [List.cons_append, quoE]
    rw [ih]
    split <;> rfl
theorem esc_or (c : UInt8) : (decide (c = 34) || decide (c = 92) || decide (c = 36) || decide (c = 91)) = decide (c = 34 ∨ c = 92 ∨ c = 36 ∨ c = 91) := by
  rw [Bool.eq_iff_iff]
  simp only [Bool.or_eq_true, decide_eq_true_eq, or_assoc]
theorem take_succ_u8 (s : ByteArray) (k : Nat) (h : k < s.size) : s.data.toList.take (k + 1) = s.data.toList.take k ++ [s[k]] := by
  rw [List.take_succ_eq_append_getElem (by simpa using h)]; rfl
set_option maxRecDepth 100000 in
set_option maxHeartbeats 8000000 in
theorem cquote_any (s : ByteArray) (Ls : List Addr) (w : World) (hE : SenW w Ls) (hs : s.size ≤ 4000) : Calls Tryd.prog 11 #[.string s] w (Ret w (.string ⟨(quoteT s.data.toList).toArray⟩)) := by
  have H1 := Lib.hid (one_any s Ls w hE (by omega))
  obtain ⟨L, hL⟩ : ∃ L, L = s.data.toList := ⟨_, rfl⟩
  rw [← hL] at H1 ⊢
  have HL := Lib.hid hL
  obtain ⟨V, hV⟩ : ∃ V : ByteArray, V = ⟨(quoteT L).toArray⟩ := ⟨_, rfl⟩
  rw [← hV]
  have HV := Lib.hid hV
  clear hE hL hV
  go_enter Tryd.func11, Tryd.ntmps11
  go_wp2_with fail
  refine H1.out.mono ?_
  rintro e w1 ⟨x, v, b, rfl, hO, hb1, h1⟩
  have hk := Blk.new w1 36 #[.int .i64 x.pos, .bool x.braced, v]
  obtain ⟨A1, c1, hv1, -, -, -, -⟩ := own_form hO
  subst hv1
  have hbl : Below w1.heap.size w1 (w1.alloc (.cells #[.int .i64 x.pos, .bool x.braced, .slice A1 x.parts.length c1] 36)) := (Below.refl _ _).alloc (Nat.le_refl _) _
  have HT := Lib.hid (ctext_any x _ _ (hO.below hbl).rd)
  have HB := Lib.hid (hb1.trans (hbl.mono hb1.size))
  have HK := Lib.hid hk
  have HN1 := Lib.hid h1
  clear hk hbl hO hb1 h1 H1
  go_upto_region 2 with (fail)
  obtain ⟨K, hK⟩ : ∃ K, K = w1.heap.size := ⟨_, rfl⟩
  rw [← hK] at HK ⊢
  generalize w1.alloc (.cells #[.int .i64 x.pos, .bool x.braced, .slice A1 x.parts.length c1] 36) = wk at *
  have k0 := HK.out.cell 0
  have k1 := HK.out.cell 1
  have k2 := HK.out.cell 2
  simp only [List.getElem?_toArray, List.getElem?_cons_zero, List.getElem?_cons_succ] at k0 k1 k2
  obtain ⟨g, hg⟩ : ∃ g : ByteArray, g = ⟨(textW x).1.toArray⟩ := ⟨_, rfl⟩
  have HG := Lib.hid (show (textW x).1 = g.data.toList by rw [hg])
  rw [← hg] at HT
  obtain ⟨tb, htb⟩ : ∃ tb, tb = (textW x).2 := ⟨_, rfl⟩
  have HTB := Lib.hid htb
  rw [← htb] at HT
  obtain ⟨br, hbr⟩ : ∃ br, br = x.braced := ⟨_, rfl⟩
  have HBR := Lib.hid hbr
  rw [← hbr] at HT HK k1 ⊢
  clear hK hg htb hbr
  go_wp2_with fail
  refine HT.out.mono ?_
  rintro e w5 ⟨rfl, hb5⟩
  have k1 := cell_keep hb5 k1
  have HB5 := Lib.hid (HB.out.trans (hb5.mono HB.out.size))
  clear hb5 HT HB k0 k2
  have HVN := Lib.hid (show bareT L = false → V = ⟨(34 :: (quoE L ++ [34])).toArray⟩ from fun h => by rw [HV.out, quoteT, if_neg (by rw [h]; decide)])
  have HVY := Lib.hid (show bareT L = true → V = s from fun h => by
    rw [HV.out, quoteT, if_pos h, HL.out])
  cases b with
  | false =>
    have hV := Lib.hid (HVN.out (by unfold bareT; rw [HN1.out]; rfl))
    clear HVN HVY HN1
    go_wp2_with fail
    go_loopw [46] (fun i wr => ∃ k : Nat, k ≤ s.size ∧ i = .int .i64 k ∧ Bld w5.heap.size w5.heap.size (quoE (s.data.toList.take k)) wr ∧ Below w5.heap.size w5 wr) (fun i _ => s.size - (intOf i).toNat)
    case atStart => exact ⟨0, Nat.zero_le _, rfl, Bld.fresh w5, (Below.refl _ _).alloc (Nat.le_refl _) _⟩
    case round =>
      obtain ⟨k, hk, rfl, hB, hb⟩ := hrel
      by_cases hlt : k < s.size
      · have HQ := Lib.hid (show quoE (s.data.toList.take (k + 1)) = quoE (s.data.toList.take k) ++ (if s[k] = 34 ∨ s[k] = 92 ∨ s[k] = 36 ∨ s[k] = 91 then [92, s[k]] else [s[k]]) by rw [take_succ_u8 s k hlt, quoE_snoc])
        have hlen : (quoE (s.data.toList.take k)).length ≤ 8000 := by
          have h1 := (quo_len (s.data.toList.take k)).2
          rw [List.length_take] at h1
          omega
        generalize hl : quoE (s.data.toList.take k) = l at *
        clear hl
        obtain ⟨c, hc⟩ : ∃ c, c = s[k] := ⟨_, rfl⟩
        have hxk : ∀ h, s[k]'h = c := fun h => hc.symm
        rw [← hc] at HQ
        have HI := Lib.hid (idx_esc c)
        have HIX := Lib.hid (fun W => Tryd.strings_IndexByte ⟨#[34, 92, 36, 91]⟩ c.toNat W)
        rw [i8] at HIX
        have HIY := Lib.hid (show ∀ W, Calls Tryd.prog 25 #[.string ⟨#[34, 92, 36, 91]⟩, .int .u8 c.toNat] W fun e w' => e = .returned (.int .i64 (Lib.indexByte [34, 92, 36, 91] c)) ∧ w' = W from fun W => HIX.out W)
        clear HIX hc
        generalize Lib.indexByte [34, 92, 36, 91] c = ix at *
        by_cases hsp : c = 34 ∨ c = 92 ∨ c = 36 ∨ c = 91
        · have hI' : 0 ≤ ix := by
            have := HI.out
            rw [esc_or, decide_eq_true hsp] at this
            exact of_decide_eq_true this
          rw [if_pos hsp] at HQ
          clear HI hsp
          go_wp2_with fail
          refine (HIY.out _).mono ?_
          rintro e wa ⟨rfl, rfl⟩
          go_wp2_with fail
          refine (writeByte_any _ _ l 92 _ hB (by omega) hb.size).mono ?_
          rintro e wb ⟨rfl, hB1, hb1, _⟩
          have hsz1 := (hb.trans hb1).size
          go_wp2_with fail
          refine (writeByte_any _ _ (l ++ [92]) c _ hB1 (by simp; omega) hsz1).mono ?_
          rintro e wc ⟨rfl, hB2, hb2, ho2⟩
          go_wp2_with fail
          go_roundw
          case rel => exact ⟨k + 1, by omega, by go_num, by rw [HQ.out]; simpa using hB2, (hb.trans hb1).trans hb2⟩
          case measure => simp [intOf]; omega
        · have hI' : ¬ 0 ≤ ix := by
            have := HI.out
            rw [esc_or, decide_eq_false hsp] at this
            exact of_decide_eq_false this
          rw [if_neg hsp] at HQ
          clear HI hsp
          go_wp2_with fail
          refine (HIY.out _).mono ?_
          rintro e wa ⟨rfl, rfl⟩
          go_wp2_with fail
          refine (writeByte_any _ _ l c _ hB (by omega) hb.size).mono ?_
          rintro e wb ⟨rfl, hB1, hb1, _⟩
          go_wp2_with fail
          go_roundw
          case rel => exact ⟨k + 1, by omega, by go_num, by rw [HQ.out]; exact hB1, hb.trans hb1⟩
          case measure => simp [intOf]; omega
      · obtain rfl : s.size = k := by omega
        have hF : s.data.toList.take s.size = s.data.toList := List.take_of_length_le (by simp)
        rw [hF] at hB
        have hql := (quo_len s.data.toList).2
        have hql2 : (quoE s.data.toList).length ≤ 8000 := by
          have : s.data.toList.length = s.size := rfl
          omega
        have HBW := Lib.hid (HB5.out.trans (hb.mono HB5.out.size))
        have HSTR := Lib.hid (Tryd.Builder_String_any _ _ _ _ hB hb.size)
        clear hF hB hb hql
        rw [← HL.out] at HSTR hql2
        generalize quoE L = ql at *
        go_wp2_with fail
        refine HSTR.out.mono ?_
        rintro e w7 ⟨rfl, hb7⟩
        go_wp2_with fail
        go_ret
        rw [hV.out]
        refine ⟨congrArg (fun z => Ending.returned (.string z)) (ByteArray.ext (Array.ext' (by simp))), HBW.out.trans (hb7.mono HB5.out.size)⟩
  | true =>
    have HN2 := Lib.hid (show bareT L = (decide (textW x = (L, true)) && !x.braced && decide (L.head? ≠ some 34) && decide (L.head? ≠ some 35)) by unfold bareT; rw [HN1.out]; rfl)
    have HNE := Lib.hid (show L ≠ [] from (oneL_some (show oneL L = some x from HN1.out)).1)
    cases tb with
    | false =>
      have hV := Lib.hid (HVN.out (by rw [HN2.out, decide_eq_false (fun h => by have := HTB.out; rw [h] at this; cases this)]; rfl))
      clear HVN HVY HN1 HN2
      go_wp2_with fail
      go_loopw [46] (fun i wr => ∃ k : Nat, k ≤ s.size ∧ i = .int .i64 k ∧ Bld w5.heap.size w5.heap.size (quoE (s.data.toList.take k)) wr ∧ Below w5.heap.size w5 wr) (fun i _ => s.size - (intOf i).toNat)
      case atStart => exact ⟨0, Nat.zero_le _, rfl, Bld.fresh w5, (Below.refl _ _).alloc (Nat.le_refl _) _⟩
      case round =>
        obtain ⟨k, hk, rfl, hB, hb⟩ := hrel
        by_cases hlt : k < s.size
        · have HQ := Lib.hid (show quoE (s.data.toList.take (k + 1)) = quoE (s.data.toList.take k) ++ (if s[k] = 34 ∨ s[k] = 92 ∨ s[k] = 36 ∨ s[k] = 91 then [92, s[k]] else [s[k]]) by rw [take_succ_u8 s k hlt, quoE_snoc])
          have hlen : (quoE (s.data.toList.take k)).length ≤ 8000 := by
            have h1 := (quo_len (s.data.toList.take k)).2
            rw [List.length_take] at h1
            omega
          generalize hl : quoE (s.data.toList.take k) = l at *
          clear hl
          obtain ⟨c, hc⟩ : ∃ c, c = s[k] := ⟨_, rfl⟩
          have hxk : ∀ h, s[k]'h = c := fun h => hc.symm
          rw [← hc] at HQ
          have HI := Lib.hid (idx_esc c)
          have HIX := Lib.hid (fun W => Tryd.strings_IndexByte ⟨#[34, 92, 36, 91]⟩ c.toNat W)
          rw [i8] at HIX
          have HIY := Lib.hid (show ∀ W, Calls Tryd.prog 25 #[.string ⟨#[34, 92, 36, 91]⟩, .int .u8 c.toNat] W fun e w' => e = .returned (.int .i64 (Lib.indexByte [34, 92, 36, 91] c)) ∧ w' = W from fun W => HIX.out W)
          clear HIX hc
          generalize Lib.indexByte [34, 92, 36, 91] c = ix at *
          by_cases hsp : c = 34 ∨ c = 92 ∨ c = 36 ∨ c = 91
          · have hI' : 0 ≤ ix := by
              have := HI.out
              rw [esc_or, decide_eq_true hsp] at this
              exact of_decide_eq_true this
            rw [if_pos hsp] at HQ
            clear HI hsp
            go_wp2_with fail
            refine (HIY.out _).mono ?_
            rintro e wa ⟨rfl, rfl⟩
            go_wp2_with fail
            refine (writeByte_any _ _ l 92 _ hB (by omega) hb.size).mono ?_
            rintro e wb ⟨rfl, hB1, hb1, _⟩
            have hsz1 := (hb.trans hb1).size
            go_wp2_with fail
            refine (writeByte_any _ _ (l ++ [92]) c _ hB1 (by simp; omega) hsz1).mono ?_
            rintro e wc ⟨rfl, hB2, hb2, ho2⟩
            go_wp2_with fail
            go_roundw
            case rel => exact ⟨k + 1, by omega, by go_num, by rw [HQ.out]; simpa using hB2, (hb.trans hb1).trans hb2⟩
            case measure => simp [intOf]; omega
          · have hI' : ¬ 0 ≤ ix := by
              have := HI.out
              rw [esc_or, decide_eq_false hsp] at this
              exact of_decide_eq_false this
            rw [if_neg hsp] at HQ
            clear HI hsp
            go_wp2_with fail
            refine (HIY.out _).mono ?_
            rintro e wa ⟨rfl, rfl⟩
            go_wp2_with fail
            refine (writeByte_any _ _ l c _ hB (by omega) hb.size).mono ?_
            rintro e wb ⟨rfl, hB1, hb1, _⟩
            go_wp2_with fail
            go_roundw
            case rel => exact ⟨k + 1, by omega, by go_num, by rw [HQ.out]; exact hB1, hb.trans hb1⟩
            case measure => simp [intOf]; omega
        · obtain rfl : s.size = k := by omega
          have hF : s.data.toList.take s.size = s.data.toList := List.take_of_length_le (by simp)
          rw [hF] at hB
          have hql := (quo_len s.data.toList).2
          have hql2 : (quoE s.data.toList).length ≤ 8000 := by
            have : s.data.toList.length = s.size := rfl
            omega
          have HBW := Lib.hid (HB5.out.trans (hb.mono HB5.out.size))
          have HSTR := Lib.hid (Tryd.Builder_String_any _ _ _ _ hB hb.size)
          clear hF hB hb hql
          rw [← HL.out] at HSTR hql2
          generalize quoE L = ql at *
          go_wp2_with fail
          refine HSTR.out.mono ?_
          rintro e w7 ⟨rfl, hb7⟩
          go_wp2_with fail
          go_ret
          rw [hV.out]
          refine ⟨congrArg (fun z => Ending.returned (.string z)) (ByteArray.ext (Array.ext' (by simp))), HBW.out.trans (hb7.mono HB5.out.size)⟩
    | true =>
      cases br with
      | true =>
        have hV := Lib.hid (HVN.out (by rw [HN2.out, ← HBR.out]; simp))
        clear HVN HVY HN1 HN2
        go_wp2_with fail
        go_loopw [46] (fun i wr => ∃ k : Nat, k ≤ s.size ∧ i = .int .i64 k ∧ Bld w5.heap.size w5.heap.size (quoE (s.data.toList.take k)) wr ∧ Below w5.heap.size w5 wr) (fun i _ => s.size - (intOf i).toNat)
        case atStart => exact ⟨0, Nat.zero_le _, rfl, Bld.fresh w5, (Below.refl _ _).alloc (Nat.le_refl _) _⟩
        case round =>
          obtain ⟨k, hk, rfl, hB, hb⟩ := hrel
          by_cases hlt : k < s.size
          · have HQ := Lib.hid (show quoE (s.data.toList.take (k + 1)) = quoE (s.data.toList.take k) ++ (if s[k] = 34 ∨ s[k] = 92 ∨ s[k] = 36 ∨ s[k] = 91 then [92, s[k]] else [s[k]]) by rw [take_succ_u8 s k hlt, quoE_snoc])
            have hlen : (quoE (s.data.toList.take k)).length ≤ 8000 := by
              have h1 := (quo_len (s.data.toList.take k)).2
              rw [List.length_take] at h1
              omega
            generalize hl : quoE (s.data.toList.take k) = l at *
            clear hl
            obtain ⟨c, hc⟩ : ∃ c, c = s[k] := ⟨_, rfl⟩
            have hxk : ∀ h, s[k]'h = c := fun h => hc.symm
            rw [← hc] at HQ
            have HI := Lib.hid (idx_esc c)
            have HIX := Lib.hid (fun W => Tryd.strings_IndexByte ⟨#[34, 92, 36, 91]⟩ c.toNat W)
            rw [i8] at HIX
            have HIY := Lib.hid (show ∀ W, Calls Tryd.prog 25 #[.string ⟨#[34, 92, 36, 91]⟩, .int .u8 c.toNat] W fun e w' => e = .returned (.int .i64 (Lib.indexByte [34, 92, 36, 91] c)) ∧ w' = W from fun W => HIX.out W)
            clear HIX hc
            generalize Lib.indexByte [34, 92, 36, 91] c = ix at *
            by_cases hsp : c = 34 ∨ c = 92 ∨ c = 36 ∨ c = 91
            · have hI' : 0 ≤ ix := by
                have := HI.out
                rw [esc_or, decide_eq_true hsp] at this
                exact of_decide_eq_true this
              rw [if_pos hsp] at HQ
              clear HI hsp
              go_wp2_with fail
              refine (HIY.out _).mono ?_
              rintro e wa ⟨rfl, rfl⟩
              go_wp2_with fail
              refine (writeByte_any _ _ l 92 _ hB (by omega) hb.size).mono ?_
              rintro e wb ⟨rfl, hB1, hb1, _⟩
              have hsz1 := (hb.trans hb1).size
              go_wp2_with fail
              refine (writeByte_any _ _ (l ++ [92]) c _ hB1 (by simp; omega) hsz1).mono ?_
              rintro e wc ⟨rfl, hB2, hb2, ho2⟩
              go_wp2_with fail
              go_roundw
              case rel => exact ⟨k + 1, by omega, by go_num, by rw [HQ.out]; simpa using hB2, (hb.trans hb1).trans hb2⟩
              case measure => simp [intOf]; omega
            · have hI' : ¬ 0 ≤ ix := by
                have := HI.out
                rw [esc_or, decide_eq_false hsp] at this
                exact of_decide_eq_false this
              rw [if_neg hsp] at HQ
              clear HI hsp
              go_wp2_with fail
              refine (HIY.out _).mono ?_
              rintro e wa ⟨rfl, rfl⟩
              go_wp2_with fail
              refine (writeByte_any _ _ l c _ hB (by omega) hb.size).mono ?_
              rintro e wb ⟨rfl, hB1, hb1, _⟩
              go_wp2_with fail
              go_roundw
              case rel => exact ⟨k + 1, by omega, by go_num, by rw [HQ.out]; exact hB1, hb.trans hb1⟩
              case measure => simp [intOf]; omega
          · obtain rfl : s.size = k := by omega
            have hF : s.data.toList.take s.size = s.data.toList := List.take_of_length_le (by simp)
            rw [hF] at hB
            have hql := (quo_len s.data.toList).2
            have hql2 : (quoE s.data.toList).length ≤ 8000 := by
              have : s.data.toList.length = s.size := rfl
              omega
            have HBW := Lib.hid (HB5.out.trans (hb.mono HB5.out.size))
            have HSTR := Lib.hid (Tryd.Builder_String_any _ _ _ _ hB hb.size)
            clear hF hB hb hql
            rw [← HL.out] at HSTR hql2
            generalize quoE L = ql at *
            go_wp2_with fail
            refine HSTR.out.mono ?_
            rintro e w7 ⟨rfl, hb7⟩
            go_wp2_with fail
            go_ret
            rw [hV.out]
            refine ⟨congrArg (fun z => Ending.returned (.string z)) (ByteArray.ext (Array.ext' (by simp))), HBW.out.trans (hb7.mono HB5.out.size)⟩
      | false =>
        by_cases hg : g = s
        · have hL0 : 0 < s.size := by
            have h1 := HNE.out
            have h2 := HL.out
            rcases Nat.eq_zero_or_pos s.size with h | h
            · exact absurd (List.eq_nil_of_length_eq_zero (by rw [h2]; simpa using h)) h1
            · exact h
          obtain ⟨c, hc⟩ : ∃ c, c = s[0]'hL0 := ⟨_, rfl⟩
          have hx0 : ∀ h, s[0]'h = c := fun h => hc.symm
          have HHD := Lib.hid (show L.head? = some c by
            rw [HL.out, hc]
            have := List.drop_eq_getElem_cons (l := s.data.toList) (i := 0) (by simpa using hL0)
            rw [List.drop_zero] at this
            rw [this]
            rfl)
          have HTW := Lib.hid (show textW x = (L, true) from Prod.ext (by rw [HG.out, hg, HL.out]) HTB.out.symm)
          have HN3 := Lib.hid (show bareT L = (decide (c ≠ 34) && decide (c ≠ 35)) by
            rw [HN2.out, HTW.out, ← HBR.out, HHD.out]
            simp)
          have hg' := hg.symm
          subst hg'
          clear hc HN1 HN2 HTW HHD
          by_cases h34 : c = 34
          · have hV := Lib.hid (HVN.out (by rw [HN3.out, h34]; rfl))
            subst h34
            clear HVN HVY HN3
            go_wp2_with fail
            go_loopw [46] (fun i wr => ∃ k : Nat, k ≤ s.size ∧ i = .int .i64 k ∧ Bld w5.heap.size w5.heap.size (quoE (s.data.toList.take k)) wr ∧ Below w5.heap.size w5 wr) (fun i _ => s.size - (intOf i).toNat)
            case atStart => exact ⟨0, Nat.zero_le _, rfl, Bld.fresh w5, (Below.refl _ _).alloc (Nat.le_refl _) _⟩
            case round =>
              obtain ⟨k, hk, rfl, hB, hb⟩ := hrel
              by_cases hlt : k < s.size
              · have HQ := Lib.hid (show quoE (s.data.toList.take (k + 1)) = quoE (s.data.toList.take k) ++ (if s[k] = 34 ∨ s[k] = 92 ∨ s[k] = 36 ∨ s[k] = 91 then [92, s[k]] else [s[k]]) by rw [take_succ_u8 s k hlt, quoE_snoc])
                have hlen : (quoE (s.data.toList.take k)).length ≤ 8000 := by
                  have h1 := (quo_len (s.data.toList.take k)).2
                  rw [List.length_take] at h1
                  omega
                generalize hl : quoE (s.data.toList.take k) = l at *
                clear hl
                obtain ⟨c, hc⟩ : ∃ c, c = s[k] := ⟨_, rfl⟩
                have hxk : ∀ h, s[k]'h = c := fun h => hc.symm
                rw [← hc] at HQ
                have HI := Lib.hid (idx_esc c)
                have HIX := Lib.hid (fun W => Tryd.strings_IndexByte ⟨#[34, 92, 36, 91]⟩ c.toNat W)
                rw [i8] at HIX
                have HIY := Lib.hid (show ∀ W, Calls Tryd.prog 25 #[.string ⟨#[34, 92, 36, 91]⟩, .int .u8 c.toNat] W fun e w' => e = .returned (.int .i64 (Lib.indexByte [34, 92, 36, 91] c)) ∧ w' = W from fun W => HIX.out W)
                clear HIX hc
                generalize Lib.indexByte [34, 92, 36, 91] c = ix at *
                by_cases hsp : c = 34 ∨ c = 92 ∨ c = 36 ∨ c = 91
                · have hI' : 0 ≤ ix := by
                    have := HI.out
                    rw [esc_or, decide_eq_true hsp] at this
                    exact of_decide_eq_true this
                  rw [if_pos hsp] at HQ
                  clear HI hsp
                  go_wp2_with fail
                  refine (HIY.out _).mono ?_
                  rintro e wa ⟨rfl, rfl⟩
                  go_wp2_with fail
                  refine (writeByte_any _ _ l 92 _ hB (by omega) hb.size).mono ?_
                  rintro e wb ⟨rfl, hB1, hb1, _⟩
                  have hsz1 := (hb.trans hb1).size
                  go_wp2_with fail
                  refine (writeByte_any _ _ (l ++ [92]) c _ hB1 (by simp; omega) hsz1).mono ?_
                  rintro e wc ⟨rfl, hB2, hb2, ho2⟩
                  go_wp2_with fail
                  go_roundw
                  case rel => exact ⟨k + 1, by omega, by go_num, by rw [HQ.out]; simpa using hB2, (hb.trans hb1).trans hb2⟩
                  case measure => simp [intOf]; omega
                · have hI' : ¬ 0 ≤ ix := by
                    have := HI.out
                    rw [esc_or, decide_eq_false hsp] at this
                    exact of_decide_eq_false this
                  rw [if_neg hsp] at HQ
                  clear HI hsp
                  go_wp2_with fail
                  refine (HIY.out _).mono ?_
                  rintro e wa ⟨rfl, rfl⟩
                  go_wp2_with fail
                  refine (writeByte_any _ _ l c _ hB (by omega) hb.size).mono ?_
                  rintro e wb ⟨rfl, hB1, hb1, _⟩
                  go_wp2_with fail
                  go_roundw
                  case rel => exact ⟨k + 1, by omega, by go_num, by rw [HQ.out]; exact hB1, hb.trans hb1⟩
                  case measure => simp [intOf]; omega
              · obtain rfl : s.size = k := by omega
                have hF : s.data.toList.take s.size = s.data.toList := List.take_of_length_le (by simp)
                rw [hF] at hB
                have hql := (quo_len s.data.toList).2
                have hql2 : (quoE s.data.toList).length ≤ 8000 := by
                  have : s.data.toList.length = s.size := rfl
                  omega
                have HBW := Lib.hid (HB5.out.trans (hb.mono HB5.out.size))
                have HSTR := Lib.hid (Tryd.Builder_String_any _ _ _ _ hB hb.size)
                clear hF hB hb hql
                rw [← HL.out] at HSTR hql2
                generalize quoE L = ql at *
                go_wp2_with fail
                refine HSTR.out.mono ?_
                rintro e w7 ⟨rfl, hb7⟩
                go_wp2_with fail
                go_ret
                rw [hV.out]
                refine ⟨congrArg (fun z => Ending.returned (.string z)) (ByteArray.ext (Array.ext' (by simp))), HBW.out.trans (hb7.mono HB5.out.size)⟩
          · by_cases h35 : c = 35
            · have hV := Lib.hid (HVN.out (by rw [HN3.out, h35]; rfl))
              subst h35
              clear HVN HVY HN3
              go_wp2_with fail
              go_loopw [46] (fun i wr => ∃ k : Nat, k ≤ s.size ∧ i = .int .i64 k ∧ Bld w5.heap.size w5.heap.size (quoE (s.data.toList.take k)) wr ∧ Below w5.heap.size w5 wr) (fun i _ => s.size - (intOf i).toNat)
              case atStart => exact ⟨0, Nat.zero_le _, rfl, Bld.fresh w5, (Below.refl _ _).alloc (Nat.le_refl _) _⟩
              case round =>
                obtain ⟨k, hk, rfl, hB, hb⟩ := hrel
                by_cases hlt : k < s.size
                · have HQ := Lib.hid (show quoE (s.data.toList.take (k + 1)) = quoE (s.data.toList.take k) ++ (if s[k] = 34 ∨ s[k] = 92 ∨ s[k] = 36 ∨ s[k] = 91 then [92, s[k]] else [s[k]]) by rw [take_succ_u8 s k hlt, quoE_snoc])
                  have hlen : (quoE (s.data.toList.take k)).length ≤ 8000 := by
                    have h1 := (quo_len (s.data.toList.take k)).2
                    rw [List.length_take] at h1
                    omega
                  generalize hl : quoE (s.data.toList.take k) = l at *
                  clear hl
                  obtain ⟨c, hc⟩ : ∃ c, c = s[k] := ⟨_, rfl⟩
                  have hxk : ∀ h, s[k]'h = c := fun h => hc.symm
                  rw [← hc] at HQ
                  have HI := Lib.hid (idx_esc c)
                  have HIX := Lib.hid (fun W => Tryd.strings_IndexByte ⟨#[34, 92, 36, 91]⟩ c.toNat W)
                  rw [i8] at HIX
                  have HIY := Lib.hid (show ∀ W, Calls Tryd.prog 25 #[.string ⟨#[34, 92, 36, 91]⟩, .int .u8 c.toNat] W fun e w' => e = .returned (.int .i64 (Lib.indexByte [34, 92, 36, 91] c)) ∧ w' = W from fun W => HIX.out W)
                  clear HIX hc
                  generalize Lib.indexByte [34, 92, 36, 91] c = ix at *
                  by_cases hsp : c = 34 ∨ c = 92 ∨ c = 36 ∨ c = 91
                  · have hI' : 0 ≤ ix := by
                      have := HI.out
                      rw [esc_or, decide_eq_true hsp] at this
                      exact of_decide_eq_true this
                    rw [if_pos hsp] at HQ
                    clear HI hsp
                    go_wp2_with fail
                    refine (HIY.out _).mono ?_
                    rintro e wa ⟨rfl, rfl⟩
                    go_wp2_with fail
                    refine (writeByte_any _ _ l 92 _ hB (by omega) hb.size).mono ?_
                    rintro e wb ⟨rfl, hB1, hb1, _⟩
                    have hsz1 := (hb.trans hb1).size
                    go_wp2_with fail
                    refine (writeByte_any _ _ (l ++ [92]) c _ hB1 (by simp; omega) hsz1).mono ?_
                    rintro e wc ⟨rfl, hB2, hb2, ho2⟩
                    go_wp2_with fail
                    go_roundw
                    case rel => exact ⟨k + 1, by omega, by go_num, by rw [HQ.out]; simpa using hB2, (hb.trans hb1).trans hb2⟩
                    case measure => simp [intOf]; omega
                  · have hI' : ¬ 0 ≤ ix := by
                      have := HI.out
                      rw [esc_or, decide_eq_false hsp] at this
                      exact of_decide_eq_false this
                    rw [if_neg hsp] at HQ
                    clear HI hsp
                    go_wp2_with fail
                    refine (HIY.out _).mono ?_
                    rintro e wa ⟨rfl, rfl⟩
                    go_wp2_with fail
                    refine (writeByte_any _ _ l c _ hB (by omega) hb.size).mono ?_
                    rintro e wb ⟨rfl, hB1, hb1, _⟩
                    go_wp2_with fail
                    go_roundw
                    case rel => exact ⟨k + 1, by omega, by go_num, by rw [HQ.out]; exact hB1, hb.trans hb1⟩
                    case measure => simp [intOf]; omega
                · obtain rfl : s.size = k := by omega
                  have hF : s.data.toList.take s.size = s.data.toList := List.take_of_length_le (by simp)
                  rw [hF] at hB
                  have hql := (quo_len s.data.toList).2
                  have hql2 : (quoE s.data.toList).length ≤ 8000 := by
                    have : s.data.toList.length = s.size := rfl
                    omega
                  have HBW := Lib.hid (HB5.out.trans (hb.mono HB5.out.size))
                  have HSTR := Lib.hid (Tryd.Builder_String_any _ _ _ _ hB hb.size)
                  clear hF hB hb hql
                  rw [← HL.out] at HSTR hql2
                  generalize quoE L = ql at *
                  go_wp2_with fail
                  refine HSTR.out.mono ?_
                  rintro e w7 ⟨rfl, hb7⟩
                  go_wp2_with fail
                  go_ret
                  rw [hV.out]
                  refine ⟨congrArg (fun z => Ending.returned (.string z)) (ByteArray.ext (Array.ext' (by simp))), HBW.out.trans (hb7.mono HB5.out.size)⟩
            · have hV := Lib.hid (HVY.out (by rw [HN3.out, decide_eq_true h34, decide_eq_true h35]; rfl))
              have e1 : ((c.toNat : Int) != 34) = true := by
                rw [bne_iff_ne]
                exact int_ne (toNat_ne (d := 34) (by decide) h34)
              have e2 : ((c.toNat : Int) != 35) = true := by
                rw [bne_iff_ne]
                exact int_ne (toNat_ne (d := 35) (by decide) h35)
              clear HVN HVY HN3
              go_wp2_with fail
              go_ret
              rw [hV.out]
              exact ⟨rfl, HB5.out⟩
        · have hV := Lib.hid (HVN.out (by rw [HN2.out, decide_eq_false (fun h => hg (ByteArray.ext (Array.ext' (by rw [← HG.out, h, HL.out])))) ]; rfl))
          have he : (g.toList == s.toList) = false := by
            rw [beq_eq_false_iff_ne, Lib.toList_data, Lib.toList_data]
            exact fun h => hg (ByteArray.ext (Array.ext' h))
          clear HVN HVY HN1 HN2
          go_wp2_with fail
          go_loopw [46] (fun i wr => ∃ k : Nat, k ≤ s.size ∧ i = .int .i64 k ∧ Bld w5.heap.size w5.heap.size (quoE (s.data.toList.take k)) wr ∧ Below w5.heap.size w5 wr) (fun i _ => s.size - (intOf i).toNat)
          case atStart => exact ⟨0, Nat.zero_le _, rfl, Bld.fresh w5, (Below.refl _ _).alloc (Nat.le_refl _) _⟩
          case round =>
            obtain ⟨k, hk, rfl, hB, hb⟩ := hrel
            by_cases hlt : k < s.size
            · have HQ := Lib.hid (show quoE (s.data.toList.take (k + 1)) = quoE (s.data.toList.take k) ++ (if s[k] = 34 ∨ s[k] = 92 ∨ s[k] = 36 ∨ s[k] = 91 then [92, s[k]] else [s[k]]) by rw [take_succ_u8 s k hlt, quoE_snoc])
              have hlen : (quoE (s.data.toList.take k)).length ≤ 8000 := by
                have h1 := (quo_len (s.data.toList.take k)).2
                rw [List.length_take] at h1
                omega
              generalize hl : quoE (s.data.toList.take k) = l at *
              clear hl
              obtain ⟨c, hc⟩ : ∃ c, c = s[k] := ⟨_, rfl⟩
              have hxk : ∀ h, s[k]'h = c := fun h => hc.symm
              rw [← hc] at HQ
              have HI := Lib.hid (idx_esc c)
              have HIX := Lib.hid (fun W => Tryd.strings_IndexByte ⟨#[34, 92, 36, 91]⟩ c.toNat W)
              rw [i8] at HIX
              have HIY := Lib.hid (show ∀ W, Calls Tryd.prog 25 #[.string ⟨#[34, 92, 36, 91]⟩, .int .u8 c.toNat] W fun e w' => e = .returned (.int .i64 (Lib.indexByte [34, 92, 36, 91] c)) ∧ w' = W from fun W => HIX.out W)
              clear HIX hc
              generalize Lib.indexByte [34, 92, 36, 91] c = ix at *
              by_cases hsp : c = 34 ∨ c = 92 ∨ c = 36 ∨ c = 91
              · have hI' : 0 ≤ ix := by
                  have := HI.out
                  rw [esc_or, decide_eq_true hsp] at this
                  exact of_decide_eq_true this
                rw [if_pos hsp] at HQ
                clear HI hsp
                go_wp2_with fail
                refine (HIY.out _).mono ?_
                rintro e wa ⟨rfl, rfl⟩
                go_wp2_with fail
                refine (writeByte_any _ _ l 92 _ hB (by omega) hb.size).mono ?_
                rintro e wb ⟨rfl, hB1, hb1, _⟩
                have hsz1 := (hb.trans hb1).size
                go_wp2_with fail
                refine (writeByte_any _ _ (l ++ [92]) c _ hB1 (by simp; omega) hsz1).mono ?_
                rintro e wc ⟨rfl, hB2, hb2, ho2⟩
                go_wp2_with fail
                go_roundw
                case rel => exact ⟨k + 1, by omega, by go_num, by rw [HQ.out]; simpa using hB2, (hb.trans hb1).trans hb2⟩
                case measure => simp [intOf]; omega
              · have hI' : ¬ 0 ≤ ix := by
                  have := HI.out
                  rw [esc_or, decide_eq_false hsp] at this
                  exact of_decide_eq_false this
                rw [if_neg hsp] at HQ
                clear HI hsp
                go_wp2_with fail
                refine (HIY.out _).mono ?_
                rintro e wa ⟨rfl, rfl⟩
                go_wp2_with fail
                refine (writeByte_any _ _ l c _ hB (by omega) hb.size).mono ?_
                rintro e wb ⟨rfl, hB1, hb1, _⟩
                go_wp2_with fail
                go_roundw
                case rel => exact ⟨k + 1, by omega, by go_num, by rw [HQ.out]; exact hB1, hb.trans hb1⟩
                case measure => simp [intOf]; omega
            · obtain rfl : s.size = k := by omega
              have hF : s.data.toList.take s.size = s.data.toList := List.take_of_length_le (by simp)
              rw [hF] at hB
              have hql := (quo_len s.data.toList).2
              have hql2 : (quoE s.data.toList).length ≤ 8000 := by
                have : s.data.toList.length = s.size := rfl
                omega
              have HBW := Lib.hid (HB5.out.trans (hb.mono HB5.out.size))
              have HSTR := Lib.hid (Tryd.Builder_String_any _ _ _ _ hB hb.size)
              clear hF hB hb hql
              rw [← HL.out] at HSTR hql2
              generalize quoE L = ql at *
              go_wp2_with fail
              refine HSTR.out.mono ?_
              rintro e w7 ⟨rfl, hb7⟩
              go_wp2_with fail
              go_ret
              rw [hV.out]
              refine ⟨congrArg (fun z => Ending.returned (.string z)) (ByteArray.ext (Array.ext' (by simp))), HBW.out.trans (hb7.mono HB5.out.size)⟩
end Go.Proofs.YtlhpflilpdceiaaDoor
