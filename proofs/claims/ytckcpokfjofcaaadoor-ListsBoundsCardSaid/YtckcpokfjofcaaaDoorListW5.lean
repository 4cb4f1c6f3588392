/- The walk over lists.Join: lists joined one behind the other. Bounds on the lengths. -/
import Derived.Test.YtckcpokfjofcaaaDoorListW4
set_option linter.unusedVariables false
set_option linter.unusedSimpArgs false
namespace Go.Proofs.YtckcpokfjofcaaaDoor
open Go.RowKit

/-- A list that is not great. -/
def Sml (l : List (List UInt8)) : Prop := l.length ≤ 1000000 ∧ ∀ s ∈ l, s.length ≤ 1000000
theorem Sml.some {l : List (List UInt8)} (h : Sml l) : Sml (someL l) := ⟨someL_le l h.1, someL_small h.2⟩
theorem Sml.of_big {l : List (List UInt8)} (h : bigL l = false) : Sml l := ⟨by have := (bigL_false.1 h).1; omega, fun s hs => by have := (bigL_false.1 h).2 s hs; omega⟩
theorem joinL_cons {ls : List (List (List UInt8))} (h : 0 < ls.length) : joinL ls = joinGo (ls.drop 1) (someL ls[0]) := by
  cases ls with
  | nil => simp at h
  | cons x t => rfl
theorem joinGo_at {ls : List (List (List UInt8))} {k : Nat} (h : k < ls.length) (acc : List (List UInt8)) : joinGo (ls.drop k) acc = match twoL acc ls[k] with
    | none => none
    | some r => joinGo (ls.drop (k + 1)) r := by
  rw [List.drop_eq_getElem_cons h, joinGo]
  cases twoL acc ls[k] <;> rfl
set_option maxRecDepth 100000 in
set_option maxHeartbeats 2000000 in
theorem join_any (A0 : Option Addr) (c0 : Nat) (ls : List (List (List UInt8))) (a : Addr) (w : World) (hK : KdS w A0 ls) (hn : ls.length ≤ 1000000) (hc : ls.length ≤ c0) (hcm : c0 ≤ maxLen) (hl : ∀ x ∈ ls, Sml x) (hE : BigW w a) :
    Calls Tryd.prog 13 #[.slice A0 ls.length c0] w (ListRet (joinL ls) a w) := by
  obtain ⟨R, hR⟩ : ∃ R, R = joinL ls := ⟨_, rfl⟩
  rw [← hR]
  have HR := Lib.hid hR
  clear hR
  obtain ⟨n, hn0⟩ : ∃ n, n = ls.length := ⟨_, rfl⟩
  rw [← hn0] at hn hc ⊢
  have HN := Lib.hid hn0
  have HL := Lib.hid hl
  have HE := Lib.hid hE
  clear hl hE
  by_cases h0 : n = 0
  · have h00 : ls = [] := List.eq_nil_of_length_eq_zero (by omega)
    have HR2 := Lib.hid (show R = some [[]] by rw [HR.out, h00]; rfl)
    subst h0
    clear HR hn0 h00
    go_enter Tryd.func13, Tryd.ntmps13
    go_wp2_with fail
    go_ret2
    obtain rfl := HR2.out
    exact ⟨_, rfl, World.ownsRow_lit w #[.string ByteArray.empty] 1 (Nat.le_refl _) (by decide) rfl, (Below.refl _ _).alloc (Nat.le_refl _) _⟩
  have hq0 : ((n : Int) == 0) = false := by rw [beq_eq_false_iff_ne]; omega
  have hpos : 0 < ls.length := by omega
  obtain ⟨b, o, rfl⟩ := hK.addr hpos
  obtain ⟨v0, cv0, hs0⟩ := hK.at_ hpos
  rw [Nat.add_zero] at cv0
  have hL0 := HL.out _ (List.getElem_mem hpos)
  have HR2 := Lib.hid (show R = joinGo (ls.drop 1) (someL ls[0]) by rw [HR.out, joinL_cons hpos])
  generalize ls[0] = x0 at *
  have SC := Lib.hid (some_any v0 x0 w hs0 hL0.1)
  have HX0 := Lib.hid hL0.some
  generalize someL x0 = y0 at *
  have hn1 : 1 ≤ n := by omega
  have hc1 : 1 ≤ c0 := by omega
  clear hs0 hL0 hn0 HR hpos h0
  go_enter Tryd.func13, Tryd.ntmps13
  go_wp2_with fail
  refine SC.out.mono ?_
  rintro e w1 ⟨v1, rfl, hs1, hb1⟩
  clear SC cv0
  have HT := Lib.hid (show ∀ x ∈ ls.drop 1, Sml x from fun x hx => HL.out x (List.mem_of_mem_drop hx))
  have HM := Lib.hid (show n - 1 = (ls.drop 1).length by rw [List.length_drop, ← HN.out])
  have hKd : KdS w (some ⟨b, if c0 = 1 then o else o + 1, none⟩) (ls.drop 1) := by
    by_cases hcc : c0 = 1
    · rw [if_pos hcc, List.drop_of_length_le (by rw [← HN.out]; omega)]
      exact ⟨[], RdL.nil _ _ _ _, AllS.nil _⟩
    · rw [if_neg hcc]
      exact hK.drop 1
  generalize ls.drop 1 = ts at *
  clear HL HN hK
  by_cases hcc : c0 = 1
  · rw [if_pos hcc] at hKd
    have hm0 : n - 1 ≤ 0 := by omega
    go_upto_region 6 with (fail)
    clear hcc hc hc1
    have hm := (show n - 1 ≤ 1000000 by omega)
    generalize n - 1 = m at *
    go_loopw [4, 5, 19] (fun v e i wr => ∃ (k : Nat) (acc : List (List UInt8)), k ≤ m ∧ i = .int .i64 k ∧ e = .nilIface ∧ SlS wr v acc ∧ Below w.heap.size w wr ∧ Hid (R = joinGo (ts.drop k) acc) ∧ Hid (Sml acc))
      (fun _ _ i _ => m - (intOf i).toNat)
    case atStart => exact ⟨0, y0, Nat.zero_le _, rfl, rfl, hs1, hb1, HR2, HX0⟩
    case round =>
      clear hs1 hb1 HR2 HX0
      obtain ⟨k, acc, hk, rfl, rfl, hsa, hbw, H, HX0⟩ := hrel
      by_cases hlt : k < m
      · have hkL : k < ts.length := by rw [← HM.out]; exact hlt
        obtain ⟨v, cv, hsv⟩ := (hKd.below hbw).at_ hkL
        have hx := HT.out _ (List.getElem_mem hkL)
        have HJ := Lib.hid (show R = match twoL acc ts[k] with | none => none | some r => joinGo (ts.drop (k + 1)) r by rw [H.out, joinGo_at hkL])
        generalize ts[k] = x at *
        obtain ⟨A, c, rfl, _⟩ := (show ∃ A c, v = .slice A x.length c ∧ True from let ⟨A, c, h, _⟩ := hsv; ⟨A, c, h, trivial⟩)
        obtain ⟨A', c', rfl, _⟩ := (show ∃ A' c', u4 = .slice A' acc.length c' ∧ True from let ⟨A, c, h, _⟩ := hsa; ⟨A, c, h, trivial⟩)
        have CT := Lib.hid (two_any _ _ acc x a wr hsa hsv HX0.out.1 hx.1 HX0.out.2 hx.2 (HE.out.below hbw))
        obtain ⟨T, hT⟩ : ∃ T, T = twoL acc x := ⟨_, rfl⟩
        rw [← hT] at CT HJ
        have HB := Lib.hid (show ∀ r, T = some r → bigL r = false from fun r hr => (two_some (hT ▸ hr)).2)
        generalize acc.length = na at *
        generalize x.length = nx at *
        clear hT H hsa hsv hx hkL
        go_wp2_with fail
        refine CT.out.mono ?_
        cases T with
        | none =>
          unfold ListRet bigV
          rintro e w3 ⟨rfl, hb3⟩
          have HJ2 := Lib.hid (show R = none from HJ.out)
          clear HJ HB
          go_wp2_with fail
          go_ret2
          obtain rfl := HJ2.out
          exact ⟨rfl, hbw.trans (hb3.mono hbw.size)⟩
        | some r =>
          unfold ListRet
          rintro e w3 ⟨v3, rfl, ho3, hb3⟩
          have HJ2 := Lib.hid (show R = joinGo (ts.drop (k + 1)) r from HJ.out)
          have HS := Lib.hid (Sml.of_big (HB.out r rfl))
          have hs3 := ho3.rd
          have hb4 := hbw.trans (hb3.mono hbw.size)
          clear HJ HB ho3 hb3 cv
          go_wp2_with fail
          go_roundw
          case rel => exact ⟨k + 1, r, by omega, by go_num, rfl, hs3, hb4, HJ2, HS⟩
          case measure => simp [intOf]; omega
      · obtain rfl : m = k := by omega
        have HF := Lib.hid (show R = boundL acc by rw [H.out, HM.out, List.drop_length, joinGo])
        obtain ⟨A', c', rfl, _⟩ := (show ∃ A' c', u4 = .slice A' acc.length c' ∧ True from let ⟨A, c, h, _⟩ := hsa; ⟨A, c, h, trivial⟩)
        have CB := Lib.hid (bound_any _ acc a wr hsa HX0.out.1 (HE.out.below hbw))
        rw [← HF.out] at CB
        clear H hlt HF
        go_wp2_with fail
        refine CB.out.mono ?_
        cases R with
        | none =>
          unfold ListRet bigV
          rintro e w2 ⟨rfl, hb2⟩
          go_wp2_with fail
          go_ret2
          exact ⟨rfl, hbw.trans (hb2.mono hbw.size)⟩
        | some r =>
          unfold ListRet
          rintro e w2 ⟨v2, rfl, ho2, hb2⟩
          go_wp2_with fail
          go_ret2
          exact ⟨v2, rfl, ho2.mono hbw.size, hbw.trans (hb2.mono hbw.size)⟩
  · rw [if_neg hcc] at hKd
    go_upto_region 6 with (fail)
    clear hcc hc hc1
    have hm := (show n - 1 ≤ 1000000 by omega)
    generalize n - 1 = m at *
    go_loopw [4, 5, 19] (fun v e i wr => ∃ (k : Nat) (acc : List (List UInt8)), k ≤ m ∧ i = .int .i64 k ∧ e = .nilIface ∧ SlS wr v acc ∧ Below w.heap.size w wr ∧ Hid (R = joinGo (ts.drop k) acc) ∧ Hid (Sml acc))
      (fun _ _ i _ => m - (intOf i).toNat)
    case atStart => exact ⟨0, y0, Nat.zero_le _, rfl, rfl, hs1, hb1, HR2, HX0⟩
    case round =>
      clear hs1 hb1 HR2 HX0
      obtain ⟨k, acc, hk, rfl, rfl, hsa, hbw, H, HX0⟩ := hrel
      by_cases hlt : k < m
      · have hkL : k < ts.length := by rw [← HM.out]; exact hlt
        obtain ⟨v, cv, hsv⟩ := (hKd.below hbw).at_ hkL
        have hx := HT.out _ (List.getElem_mem hkL)
        have HJ := Lib.hid (show R = match twoL acc ts[k] with | none => none | some r => joinGo (ts.drop (k + 1)) r by rw [H.out, joinGo_at hkL])
        generalize ts[k] = x at *
        obtain ⟨A, c, rfl, _⟩ := (show ∃ A c, v = .slice A x.length c ∧ True from let ⟨A, c, h, _⟩ := hsv; ⟨A, c, h, trivial⟩)
        obtain ⟨A', c', rfl, _⟩ := (show ∃ A' c', u4 = .slice A' acc.length c' ∧ True from let ⟨A, c, h, _⟩ := hsa; ⟨A, c, h, trivial⟩)
        have CT := Lib.hid (two_any _ _ acc x a wr hsa hsv HX0.out.1 hx.1 HX0.out.2 hx.2 (HE.out.below hbw))
        obtain ⟨T, hT⟩ : ∃ T, T = twoL acc x := ⟨_, rfl⟩
        rw [← hT] at CT HJ
        have HB := Lib.hid (show ∀ r, T = some r → bigL r = false from fun r hr => (two_some (hT ▸ hr)).2)
        generalize acc.length = na at *
        generalize x.length = nx at *
        clear hT H hsa hsv hx hkL
        go_wp2_with fail
        refine CT.out.mono ?_
        cases T with
        | none =>
          unfold ListRet bigV
          rintro e w3 ⟨rfl, hb3⟩
          have HJ2 := Lib.hid (show R = none from HJ.out)
          clear HJ HB
          go_wp2_with fail
          go_ret2
          obtain rfl := HJ2.out
          exact ⟨rfl, hbw.trans (hb3.mono hbw.size)⟩
        | some r =>
          unfold ListRet
          rintro e w3 ⟨v3, rfl, ho3, hb3⟩
          have HJ2 := Lib.hid (show R = joinGo (ts.drop (k + 1)) r from HJ.out)
          have HS := Lib.hid (Sml.of_big (HB.out r rfl))
          have hs3 := ho3.rd
          have hb4 := hbw.trans (hb3.mono hbw.size)
          clear HJ HB ho3 hb3 cv
          go_wp2_with fail
          go_roundw
          case rel => exact ⟨k + 1, r, by omega, by go_num, rfl, hs3, hb4, HJ2, HS⟩
          case measure => simp [intOf]; omega
      · obtain rfl : m = k := by omega
        have HF := Lib.hid (show R = boundL acc by rw [H.out, HM.out, List.drop_length, joinGo])
        obtain ⟨A', c', rfl, _⟩ := (show ∃ A' c', u4 = .slice A' acc.length c' ∧ True from let ⟨A, c, h, _⟩ := hsa; ⟨A, c, h, trivial⟩)
        have CB := Lib.hid (bound_any _ acc a wr hsa HX0.out.1 (HE.out.below hbw))
        rw [← HF.out] at CB
        clear H hlt HF
        go_wp2_with fail
        refine CB.out.mono ?_
        cases R with
        | none =>
          unfold ListRet bigV
          rintro e w2 ⟨rfl, hb2⟩
          go_wp2_with fail
          go_ret2
          exact ⟨rfl, hbw.trans (hb2.mono hbw.size)⟩
        | some r =>
          unfold ListRet
          rintro e w2 ⟨v2, rfl, ho2, hb2⟩
          go_wp2_with fail
          go_ret2
          exact ⟨v2, rfl, ho2.mono hbw.size, hbw.trans (hb2.mono hbw.size)⟩
end Go.Proofs.YtckcpokfjofcaaaDoor
