/- The walk over lists.each: what becomes of each item, one behind the other, for any function that is called. Bounds on the lengths. -/
import Derived.Test.YtckcpokfjofcaaaDoorListW5
set_option linter.unusedVariables false
set_option linter.unusedSimpArgs false
namespace Go.Proofs.YtckcpokfjofcaaaDoor
open Go.RowKit

set_option maxRecDepth 100000 in
set_option maxHeartbeats 2000000 in
theorem each_any (fid : Nat) (cs : Array Value) (f : List UInt8 → List (List UInt8)) (v0 : Value) (L : List (List UInt8)) (a : Addr) (w : World) (hv : SlS w v0 L) (hL : L.length ≤ 1000000)
    (hf : ∀ s ∈ L, ∀ W, Below w.heap.size w W → Calls Tryd.prog fid (#[.string ⟨s.toArray⟩] ++ cs) W (SlRet (f s) W)) (hlen : ∀ s ∈ L, (f s).length ≤ 1000000) (hE : BigW w a) (hent : ∀ args W, (callFunc fid args).run Tryd.prog W = .ok (.enter fid args) W) :
    Calls Tryd.prog 30 #[v0, .func (.func fid) #[] cs] w (ListRet (eachL f L) a w) := by
  obtain ⟨i0, hi, hz0, hz1, hz2⟩ := info_parts infoStr
  obtain ⟨R, hR⟩ : ∃ R, R = eachL f L := ⟨_, rfl⟩
  rw [← hR]
  have HR0 := Lib.hid (show R = eachGo f (L.drop 0) [] from hR)
  clear hR
  obtain ⟨A0, c0, rfl, hrd, _⟩ := hv
  obtain ⟨n, hn0⟩ : ∃ n, n = L.length := ⟨_, rfl⟩
  rw [← hn0] at hL ⊢
  have HN := Lib.hid hn0
  have HF := Lib.hid hf
  have HLEN := Lib.hid hlen
  have HE := Lib.hid hE
  clear hn0 hf hlen
  unfold BigW bigV at hE
  go_enter Tryd.func30, Tryd.ntmps30
  go_wp2_with fail
  go_loopw [6, 11] (fun v i wr => ∃ (k : Nat) (acc : List (List UInt8)), k ≤ n ∧ i = .int .i64 k ∧ acc.length ≤ 100 ∧ OwnS wr w.heap.size v acc ∧ Below w.heap.size w wr ∧ Hid (R = eachGo f (L.drop k) acc))
    (fun _ i _ => n - (intOf i).toNat)
  case atStart => exact ⟨0, [], Nat.zero_le _, rfl, Nat.zero_le _, OwnS.nil _ _, Below.refl _ _, HR0⟩
  case round =>
    clear HR0
    obtain ⟨k, acc, hk, rfl, hak, hown, hbw, H⟩ := hrel
    by_cases hlt : k < n
    · have hkL : k < L.length := by rw [← HN.out]; exact hlt
      obtain ⟨b, o, rfl⟩ := hrd.ats hkL
      have cx := (hrd.below hbw).strs hkL
      have hfx := HF.out _ (List.getElem_mem hkL)
      have hlx := HLEN.out _ (List.getElem_mem hkL)
      have HD := Lib.hid (List.drop_eq_getElem_cons hkL)
      obtain ⟨x, hx⟩ : ∃ x, x = L[k] := ⟨_, rfl⟩
      rw [← hx] at cx hfx hlx HD
      clear hx hkL
      have HG := Lib.hid (show R = if 100 < (acc ++ f x).length then none else eachGo f (L.drop (k + 1)) (acc ++ f x) by rw [H.out, HD.out, eachGo])
      have CF := Lib.hid (hfx wr hbw)
      generalize f x = y at *
      clear H HD hfx
      go_wp2_with fail
      refine CF.out.mono ?_
      rintro e w2 ⟨v2, rfl, hs2, hb2⟩
      obtain ⟨A1, c1, rfl, hrx, hAx, hxc, hxm⟩ := hs2
      replace hbw := hbw.trans (hb2.mono hbw.size)
      replace hown := hown.below hb2
      clear hb2 CF cx
      obtain ⟨na, hna⟩ : ∃ na, na = acc.length := ⟨_, rfl⟩
      obtain ⟨nx, hnx⟩ : ∃ nx, nx = y.length := ⟨_, rfl⟩
      have HNA := Lib.hid hna
      have HNX := Lib.hid hnx
      unfold OwnS at hown
      rw [← hna] at hak hown
      rw [← hnx] at hlx hxc ⊢
      clear hna hnx
      go_upto_region 6 with (at_builtin; refine wpList_pushAll (enc := strc) rfl _ _ _ rfl Tryd.underlying22 hi hz0 hz1 hz2 rfl (by decide) hown rfl rfl HNX.out hrx hAx trivial strc_len strc_one (by omega) (by decide) hbw.size ?_; intro A2 c2 w2 ho2 hb2 hoo2)
      have hlen : (acc ++ y).length = na + nx := by rw [List.length_append, ← HNA.out, ← HNX.out]
      have HO := Lib.hid (show OwnS w2 w.heap.size (.slice A2 (na + nx) c2) (acc ++ y) by unfold OwnS; rw [hlen, List.flatMap_append]; exact ho2)
      have HLEN := Lib.hid hlen
      have hbz := hbw.trans hb2
      have hE2 := cell_keep hbz hE
      clear hown ho2 hoo2 hb2 hrx hlen hAx
      generalize na + nx = nn at *
      by_cases hbig : 100 < nn
      · have HR := Lib.hid (show R = none by rw [HG.out, if_pos (by rw [HLEN.out]; exact hbig)])
        have l0 := Later.cell hE2
        go_upto_region 7 with (fail)
        refine wp_region_eq (by kernel_rfl) (by kernel_rfl) ?_
        apply EqGo.run
        focus
          kernel_rfl
        focus
          intro x K hK
          go_wp2_with fail
          first | exact hK x (Below.refl _ _) | exact Below.refl _ _
        simp only [Act.put, List.setIfInBounds_toArray, List.set_cons_succ, List.set_cons_zero]
        apply EqGo.run
        focus
          kernel_rfl
        focus
          intro x K hK
          go_wp2_with fail
          first | exact hK x (Below.refl _ _) | exact Below.refl _ _
        simp only [Act.put, List.setIfInBounds_toArray, List.set_cons_succ, List.set_cons_zero]
        apply EqGo.run
        focus
          kernel_rfl
        focus
          intro x K hK
          go_wp2_with fail
          first | exact hK x (Below.refl _ _) | exact Below.refl _ _
        simp only [Act.put, List.setIfInBounds_toArray, List.set_cons_succ, List.set_cons_zero]
        intro xq
        have hby := hbz.trans (xq.below.mono hbz.size)
        go_wp2_with fail
        go_ret2
        obtain rfl := HR.out
        exact ⟨rfl, hby⟩
      · have HR := Lib.hid (show R = eachGo f (L.drop (k + 1)) (acc ++ y) by rw [HG.out, if_neg (by rw [HLEN.out]; exact hbig)])
        go_wp2_with fail
        go_roundw
        case rel => exact ⟨k + 1, acc ++ y, by omega, by go_num, by rw [HLEN.out]; omega, HO.out, hbz, HR⟩
        case measure => simp [intOf]; omega
    · obtain rfl : n = k := by omega
      have HFF := Lib.hid (show R = boundL acc by rw [H.out, HN.out, List.drop_length, eachGo])
      have hra := hown.rd
      obtain ⟨A, c, rfl, _⟩ := hra
      have CB := Lib.hid (bound_any _ acc a wr hown.rd (by omega) (HE.out.below hbw))
      rw [← HFF.out] at CB
      clear H hlt HFF
      go_wp2_with fail
      refine CB.out.mono ?_
      cases R with
      | none =>
        unfold ListRet bigV
        rintro e w2 ⟨rfl, hb2⟩
        go_wp2_with fail
        go_ret2
        exact ⟨rfl, hbw.trans (hb2.mono hbw.size)⟩
      | some r =>
        unfold ListRet
        rintro e w2 ⟨v2, rfl, ho2, hb2⟩
        go_wp2_with fail
        go_ret2
        exact ⟨v2, rfl, ho2.mono hbw.size, hbw.trans (hb2.mono hbw.size)⟩
end Go.Proofs.YtckcpokfjofcaaaDoor
