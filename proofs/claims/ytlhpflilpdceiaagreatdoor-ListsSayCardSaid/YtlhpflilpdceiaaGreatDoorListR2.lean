/- The walks over the document's own SplitAll, Each, Flat, Glob. Bounds on the lengths. -/
import Derived.Test.YtlhpflilpdceiaaGreatDoorListR1
import Derived.Test.YtlhpflilpdceiaaGreatDoorJH
import Derived.Test.YtlhpflilpdceiaaGreatDoorJK
import Derived.Test.YtlhpflilpdceiaaGreatDoorJI
import Derived.Test.YtlhpflilpdceiaaGreatDoorRef2W9
set_option linter.unusedVariables false
set_option linter.unusedSimpArgs false
namespace Go.Proofs.YtlhpflilpdceiaaGreatDoor
open Go.RowKit

theorem split2_sl (s : List UInt8) (w : World) (hs : s.length ≤ 1000000) : Calls Tryz.prog 38 #[.string ⟨s.toArray⟩] w (OwnRet (splitL s) w) := by
  refine (split2_any ⟨s.toArray⟩ w (by simpa [ByteArray.size] using hs)).mono ?_
  rintro e w' ⟨v, rfl, ho, hb⟩
  exact ⟨v, rfl, ho, hb⟩
theorem escape2_l (s : List UInt8) (w : World) (hs : s.length ≤ 1000000) : Calls Tryz.prog 41 #[.string ⟨s.toArray⟩] w (Ret w (.string ⟨(escapeL s).toArray⟩)) := escape2_any ⟨s.toArray⟩ w (by simpa [ByteArray.size] using hs)
theorem plain2_l (s : List UInt8) (w : World) (hs : s.length ≤ 1000000) : Calls Tryz.prog 42 #[.string ⟨s.toArray⟩] w (Ret w (.string ⟨(plainL s).toArray⟩)) := plain2_any ⟨s.toArray⟩ w (by simpa [ByteArray.size] using hs)
theorem live2_l (s : List UInt8) (w : World) (hs : s.length ≤ 1000000) : Calls Tryz.prog 48 #[.string ⟨s.toArray⟩] w (Ret w (.bool (liveL s))) := live2_any ⟨s.toArray⟩ w (by simpa [ByteArray.size] using hs)
theorem files2_l (s : List UInt8) (v : Value) (N : List (List UInt8)) (w : World) (hv : SlS w v N) (hN : Sml N) (hs : s.length ≤ 1000000) : Calls Tryz.prog 49 #[.string ⟨s.toArray⟩, v] w (SlRet (filesL s N) w) := by
  obtain ⟨A, c, rfl, hr, _⟩ := hv
  refine (files2_any s A c N w hr hN.1 hs hN.2).mono ?_
  rintro e w' ⟨v, rfl, ho, hb⟩
  exact ⟨v, rfl, OwnS.rd (B := w.heap.size) (l := filesL s N) ho, hb⟩
set_option maxRecDepth 100000 in
set_option maxHeartbeats 2000000 in
theorem rsplit_any (v0 : Value) (L : List (List UInt8)) (w : World) (hv : SlS w v0 L) (hL : Thin L) :
    Calls Tryz.prog 12 #[v0] w (GoodRet (eachL splitL L) w) := by
  obtain ⟨i0, hi, hz0, hz1, hz2⟩ := info_parts infoStr
  obtain ⟨R, hR⟩ : ∃ R, R = eachL splitL L := ⟨_, rfl⟩
  rw [← hR]
  have HR0 := Lib.hid (show R = eachGo splitL (L.drop 0) [] from hR)
  clear hR
  obtain ⟨A0, c0, rfl, hrd, _⟩ := hv
  obtain ⟨n, hn0⟩ : ∃ n, n = L.length := ⟨_, rfl⟩
  have hn : n ≤ 1000000 := by rw [hn0]; exact hL.1
  rw [← hn0]
  have HN := Lib.hid hn0
  have HL := Lib.hid hL.2
  clear hn0 hL
  go_enter Tryz.func12, Tryz.ntmps12
  go_wp2_with fail
  go_loopw [4, 5] (fun v i wr => ∃ (k : Nat) (acc : List (List UInt8)), k ≤ n ∧ i = .int .i64 k ∧ acc.length ≤ 100 ∧ OwnS wr w.heap.size v acc ∧ Below w.heap.size w wr ∧ Hid (∀ s ∈ acc, s.length ≤ 140737488355328) ∧ Hid (R = eachGo splitL (L.drop k) acc))
    (fun _ i _ => n - (intOf i).toNat)
  case atStart => exact ⟨0, [], Nat.zero_le _, rfl, Nat.zero_le _, OwnS.nil _ _, Below.refl _ _, Lib.hid (fun s hs => by cases hs), HR0⟩
  case round =>
    clear HR0
    obtain ⟨k, acc, hk, rfl, hak, hown, hbw, HSA, H⟩ := hrel
    by_cases hlt : k < n
    · have hkL : k < L.length := by rw [← HN.out]; exact hlt
      obtain ⟨b, o, rfl⟩ := hrd.ats hkL
      have cx := (hrd.below hbw).strs hkL
      have hsx := HL.out _ (List.getElem_mem hkL)
      have HD := Lib.hid (List.drop_eq_getElem_cons hkL)
      generalize L[k] = x at *
      have HG := Lib.hid (show R = if 100 < (acc ++ splitL x).length then none else eachGo splitL (L.drop (k + 1)) (acc ++ splitL x) by rw [H.out, HD.out, eachGo])
      have hxl := split_len x
      have HSA2 := Lib.hid (show ∀ s ∈ acc ++ splitL x, s.length ≤ 140737488355328 from fun s hs => (List.mem_append.1 hs).elim (HSA.out s) (fun h => by have := (split_parts _ x (Nat.le_refl _) s h).2.1; omega))
      have CF := Lib.hid (split2_sl x wr (by omega))
      generalize splitL x = y at *
      clear H HD hkL HSA
      go_wp2_with fail
      refine CF.out.mono ?_
      rintro e w1 ⟨v1, rfl, hs1, hb1⟩
      obtain ⟨A1, c1, rfl, hrx, hAx, hxc, hxm⟩ := hs1.rd
      replace hbw := hbw.trans (hb1.mono hbw.size)
      replace hown := hown.below hb1
      clear hs1 hb1 CF cx
      obtain ⟨na, hna⟩ : ∃ na, na = acc.length := ⟨_, rfl⟩
      obtain ⟨nx, hnx⟩ : ∃ nx, nx = y.length := ⟨_, rfl⟩
      have HNA := Lib.hid hna
      have HNX := Lib.hid hnx
      unfold OwnS at hown
      rw [← hna] at hak hown
      rw [← hnx] at hxl hxc ⊢
      clear hna hnx
      go_upto_region 6 with (at_builtin; refine wpList_pushAll (enc := strc) rfl _ _ _ rfl Tryz.underlying23 hi hz0 hz1 hz2 rfl (by decide) hown rfl rfl HNX.out hrx hAx trivial strc_len strc_one (by omega) (by decide) hbw.size ?_; intro A2 c2 w2 ho2 hb2 hoo2)
      have hlen : (acc ++ y).length = na + nx := by rw [List.length_append, ← HNA.out, ← HNX.out]
      have HO := Lib.hid (show OwnS w2 w.heap.size (.slice A2 (na + nx) c2) (acc ++ y) by unfold OwnS; rw [hlen, List.flatMap_append]; exact ho2)
      have HLEN := Lib.hid hlen
      have hbz := hbw.trans hb2
      clear hown ho2 hoo2 hb2 hrx hlen hAx
      generalize na + nx = nn at *
      by_cases hbig : 100 < nn
      · have HR := Lib.hid (show R = none by rw [HG.out, if_pos (by rw [HLEN.out]; exact hbig)])
        go_wp2_with fail
        go_ret2
        obtain rfl := HR.out
        exact ⟨none, 0, 0, rfl, SlS.nil _, hbz⟩
      · have HR := Lib.hid (show R = (eachGo splitL (L.drop (k + 1)) (acc ++ y)) by rw [HG.out, if_neg (by rw [HLEN.out]; exact hbig)])
        go_wp2_with fail
        go_roundw
        case rel => exact ⟨k + 1, acc ++ y, by omega, by go_num, by rw [HLEN.out]; omega, HO.out, hbz, HSA2, HR⟩
        case measure => simp [intOf]; omega
    · obtain rfl : n = k := by omega
      have HF := Lib.hid (show R = boundL acc by rw [H.out, HN.out, List.drop_length, eachGo])
      have hra := hown.rd
      obtain ⟨A, c, rfl, _⟩ := hra
      have CB := Lib.hid (rbound_any _ _ _ acc wr hown.rd (by omega) (by first | exact HSA.out | exact HSA))
      rw [← HF.out] at CB
      clear H hlt HF
      go_wp2_with fail
      refine CB.out.mono ?_
      rintro e w2 ⟨A2, n2, c2, rfl, hs2, hb2⟩
      go_wp2_with fail
      go_ret2
      exact ⟨A2, n2, c2, rfl, hs2, hbw.trans (hb2.mono hbw.size)⟩
theorem each1_go (f : List UInt8 → List UInt8) : ∀ (l acc : List (List UInt8)), acc.length ≤ 100 → eachGo (fun s => [f s]) l acc = if 100 < acc.length + l.length then none else boundL (acc ++ l.map f)
  | [], acc, h => by rw [eachGo, if_neg (by simpa using h), List.map_nil, List.append_nil]
  | x :: t, acc, h => by
    rw [eachGo, List.length_append, List.length_singleton, List.length_cons]
    by_cases h1 : 100 < acc.length + 1
    · rw [if_pos h1, if_pos (by omega)]
    · rw [if_neg h1, each1_go f t _ (by rw [List.length_append, List.length_singleton]; omega), List.length_append, List.length_singleton, List.append_assoc]
      rw [show acc.length + 1 + t.length = acc.length + (t.length + 1) by omega]
      rfl
theorem each1_eq (f : List UInt8 → List UInt8) (l : List (List UInt8)) : eachL (fun s => [f s]) l = if 100 < l.length then none else boundL (l.map f) := by
  rw [eachL, each1_go f l [] (Nat.zero_le _), List.length_nil, Nat.zero_add, List.nil_append]
set_option maxRecDepth 100000 in
set_option maxHeartbeats 2000000 in
theorem resc_any (v0 : Value) (L : List (List UInt8)) (w : World) (hv : SlS w v0 L) (hL : Thin L) (hf : ∀ s ∈ L, (escapeL s).length ≤ 1000000) :
    Calls Tryz.prog 14 #[v0, .bool true] w (GoodRet (eachL (fun s => [escapeL s]) L) w) := by
  obtain ⟨i0, hi, hz0, hz1, hz2⟩ := info_parts infoStr
  obtain ⟨R, hR⟩ : ∃ R, R = eachL (fun s => [escapeL s]) L := ⟨_, rfl⟩
  rw [← hR]
  have HR0 := Lib.hid (show R = if 100 < L.length then none else boundL (L.map escapeL) by rw [hR, each1_eq])
  clear hR
  obtain ⟨A0, c0, rfl, hrd, _⟩ := hv
  obtain ⟨n, hn0⟩ : ∃ n, n = L.length := ⟨_, rfl⟩
  have hn : n ≤ 1000000 := by rw [hn0]; exact hL.1
  rw [← hn0] at HR0 ⊢
  have HN := Lib.hid hn0
  have HL := Lib.hid hL.2
  have HFL := Lib.hid hf
  clear hn0 hL hf
  by_cases hbig : 100 < n
  · have HR := Lib.hid (show R = none by rw [HR0.out, if_pos hbig])
    go_enter Tryz.func14, Tryz.ntmps14
    go_wp2_with fail
    go_ret2
    obtain rfl := HR.out
    exact ⟨none, 0, 0, rfl, SlS.nil _, Below.refl _ _⟩
  have HR := Lib.hid (show R = boundL (L.map escapeL) by rw [HR0.out, if_neg hbig])
  clear HR0
  go_enter Tryz.func14, Tryz.ntmps14
  go_wp2_with fail
  go_loopw [6, 7] (fun v i wr => ∃ k : Nat, k ≤ n ∧ i = .int .i64 k ∧ wr.ownsRow w.heap.size 9 1 v k (((L.take k).map escapeL).flatMap strc) ∧ Below w.heap.size w wr)
    (fun _ i _ => n - (intOf i).toNat)
  case atStart => exact ⟨0, Nat.zero_le _, rfl, World.ownsRow_nil _ _ _ _, Below.refl _ _⟩
  case round =>
    obtain ⟨k, hk, rfl, hown, hbw⟩ := hrel
    by_cases hlt : k < n
    · have hkL : k < L.length := by rw [← HN.out]; exact hlt
      obtain ⟨b, o, rfl⟩ := hrd.ats hkL
      have cx := (hrd.below hbw).strs hkL
      have hsx := HL.out _ (List.getElem_mem hkL)
      have HT := Lib.hid (show (L.take (k + 1)).map escapeL = (L.take k).map escapeL ++ [escapeL L[k]] by rw [List.take_succ_eq_append_getElem hkL, List.map_append]; rfl)
      generalize L[k] = x at *
      have CF := Lib.hid (escape2_l x wr (by omega))
      generalize escapeL x = y at *
      generalize hacc : (L.take k).map escapeL = acc at *
      clear hkL hacc
      go_wp2_with fail
      refine CF.out.mono ?_
      rintro e w1 ⟨rfl, hb1⟩
      replace hbw := hbw.trans (hb1.mono hbw.size)
      replace hown := own_below hown hb1
      clear hb1 CF cx
      go_wp2_with (at_builtin; refine wpList_push rfl _ _ _ rfl Tryz.underlying23 hi hz0 hz1 hz2 rfl (by decide) hown rfl rfl rfl (by simp [Value.oneCell']) (by omega) (by decide) hbw.size ?_; intro A2 c2 w2 ho2 hb2 hoo2)
      have HO := Lib.hid (show w2.ownsRow w.heap.size 9 1 (.slice A2 (k + 1) c2) (k + 1) (((L.take (k + 1)).map escapeL).flatMap strc) by rw [HT.out, List.flatMap_append]; exact ho2)
      have hbz := hbw.trans hb2
      clear hown ho2 hoo2 hb2
      go_roundw
      case rel => exact ⟨k + 1, by omega, by go_num, HO.out, hbz⟩
      case measure => simp [intOf]; omega
    · obtain rfl : n = k := by omega
      have hown2 : OwnS wr w.heap.size u6 (L.map escapeL) := by
        unfold OwnS
        rw [List.length_map, ← HN.out]
        rwa [show L.take n = L by rw [HN.out, List.take_length]] at hown
      have HO := Lib.hid hown2
      obtain ⟨A, c, rfl, _⟩ := hown2.rd
      have CB := Lib.hid (rbound_any _ _ _ (L.map escapeL) wr HO.out.rd (by rw [List.length_map, ← HN.out]; omega) (fun s hs => by
        obtain ⟨x, hx, rfl⟩ := List.mem_map.1 hs
        have := HFL.out x hx
        omega))
      rw [← HR.out] at CB
      rw [List.length_map, ← HN.out] at CB ⊢
      clear hown hown2 HO
      go_wp2_with fail
      refine CB.out.mono ?_
      rintro e w2 ⟨A2, n2, c2, rfl, hs2, hb2⟩
      go_wp2_with fail
      go_ret2
      exact ⟨A2, n2, c2, rfl, hs2, hbw.trans (hb2.mono hbw.size)⟩
set_option maxRecDepth 100000 in
set_option maxHeartbeats 2000000 in
theorem rplain_any (v0 : Value) (L : List (List UInt8)) (w : World) (hv : SlS w v0 L) (hL : Thin L) (hf : ∀ s ∈ L, (plainL s).length ≤ 1000000) :
    Calls Tryz.prog 14 #[v0, .bool false] w (GoodRet (eachL (fun s => [plainL s]) L) w) := by
  obtain ⟨i0, hi, hz0, hz1, hz2⟩ := info_parts infoStr
  obtain ⟨R, hR⟩ : ∃ R, R = eachL (fun s => [plainL s]) L := ⟨_, rfl⟩
  rw [← hR]
  have HR0 := Lib.hid (show R = if 100 < L.length then none else boundL (L.map plainL) by rw [hR, each1_eq])
  clear hR
  obtain ⟨A0, c0, rfl, hrd, _⟩ := hv
  obtain ⟨n, hn0⟩ : ∃ n, n = L.length := ⟨_, rfl⟩
  have hn : n ≤ 1000000 := by rw [hn0]; exact hL.1
  rw [← hn0] at HR0 ⊢
  have HN := Lib.hid hn0
  have HL := Lib.hid hL.2
  have HFL := Lib.hid hf
  clear hn0 hL hf
  by_cases hbig : 100 < n
  · have HR := Lib.hid (show R = none by rw [HR0.out, if_pos hbig])
    go_enter Tryz.func14, Tryz.ntmps14
    go_wp2_with fail
    go_ret2
    obtain rfl := HR.out
    exact ⟨none, 0, 0, rfl, SlS.nil _, Below.refl _ _⟩
  have HR := Lib.hid (show R = boundL (L.map plainL) by rw [HR0.out, if_neg hbig])
  clear HR0
  go_enter Tryz.func14, Tryz.ntmps14
  go_wp2_with fail
  go_loopw [6, 7] (fun v i wr => ∃ k : Nat, k ≤ n ∧ i = .int .i64 k ∧ wr.ownsRow w.heap.size 9 1 v k (((L.take k).map plainL).flatMap strc) ∧ Below w.heap.size w wr)
    (fun _ i _ => n - (intOf i).toNat)
  case atStart => exact ⟨0, Nat.zero_le _, rfl, World.ownsRow_nil _ _ _ _, Below.refl _ _⟩
  case round =>
    obtain ⟨k, hk, rfl, hown, hbw⟩ := hrel
    by_cases hlt : k < n
    · have hkL : k < L.length := by rw [← HN.out]; exact hlt
      obtain ⟨b, o, rfl⟩ := hrd.ats hkL
      have cx := (hrd.below hbw).strs hkL
      have hsx := HL.out _ (List.getElem_mem hkL)
      have HT := Lib.hid (show (L.take (k + 1)).map plainL = (L.take k).map plainL ++ [plainL L[k]] by rw [List.take_succ_eq_append_getElem hkL, List.map_append]; rfl)
      generalize L[k] = x at *
      have CF := Lib.hid (plain2_l x wr (by omega))
      generalize plainL x = y at *
      generalize hacc : (L.take k).map plainL = acc at *
      clear hkL hacc
      go_wp2_with fail
      refine CF.out.mono ?_
      rintro e w1 ⟨rfl, hb1⟩
      replace hbw := hbw.trans (hb1.mono hbw.size)
      replace hown := own_below hown hb1
      clear hb1 CF cx
      go_wp2_with (at_builtin; refine wpList_push rfl _ _ _ rfl Tryz.underlying23 hi hz0 hz1 hz2 rfl (by decide) hown rfl rfl rfl (by simp [Value.oneCell']) (by omega) (by decide) hbw.size ?_; intro A2 c2 w2 ho2 hb2 hoo2)
      have HO := Lib.hid (show w2.ownsRow w.heap.size 9 1 (.slice A2 (k + 1) c2) (k + 1) (((L.take (k + 1)).map plainL).flatMap strc) by rw [HT.out, List.flatMap_append]; exact ho2)
      have hbz := hbw.trans hb2
      clear hown ho2 hoo2 hb2
      go_roundw
      case rel => exact ⟨k + 1, by omega, by go_num, HO.out, hbz⟩
      case measure => simp [intOf]; omega
    · obtain rfl : n = k := by omega
      have hown2 : OwnS wr w.heap.size u6 (L.map plainL) := by
        unfold OwnS
        rw [List.length_map, ← HN.out]
        rwa [show L.take n = L by rw [HN.out, List.take_length]] at hown
      have HO := Lib.hid hown2
      obtain ⟨A, c, rfl, _⟩ := hown2.rd
      have CB := Lib.hid (rbound_any _ _ _ (L.map plainL) wr HO.out.rd (by rw [List.length_map, ← HN.out]; omega) (fun s hs => by
        obtain ⟨x, hx, rfl⟩ := List.mem_map.1 hs
        have := HFL.out x hx
        omega))
      rw [← HR.out] at CB
      rw [List.length_map, ← HN.out] at CB ⊢
      clear hown hown2 HO
      go_wp2_with fail
      refine CB.out.mono ?_
      rintro e w2 ⟨A2, n2, c2, rfl, hs2, hb2⟩
      go_wp2_with fail
      go_ret2
      exact ⟨A2, n2, c2, rfl, hs2, hbw.trans (hb2.mono hbw.size)⟩
set_option maxHeartbeats 2000000 in
set_option maxRecDepth 100000 in
theorem rflat_any (v : Value) (L : List (List UInt8)) (w : World) (hv : SlS w v L) (hL : Thin L) : Calls Tryz.prog 17 #[v] w (GoodRet (flatTx L) w) := by
  obtain ⟨A0, c0, rfl, hrd, _⟩ := hv
  have HR := Lib.hid (show flatTx L = if 2000 < L.length - 1 + sumL L then none else some [spaced L] from rfl)
  have HSP := Lib.hid (fun k => spaced_take L k)
  have HSL := Lib.hid (spaced_len L)
  have HBS := Lib.hid (fun h => bound_spaced (L := L) h)
  have HS := Lib.hid hL.2
  obtain ⟨m, hm⟩ : ∃ m, m = L.length := ⟨_, rfl⟩
  have hm1 : m ≤ 1000000 := by rw [hm]; exact hL.1
  generalize flatTx L = R at *
  have HM := Lib.hid hm
  rw [← hm] at HR HSP HSL HBS ⊢
  clear hm hL
  go_enter Tryz.func17, Tryz.ntmps17
  go_wp2_with fail
  go_loopw [4, 5] (fun v i wr => ∃ k : Nat, k ≤ m ∧ i = .int .i64 k ∧ v = .string ⟨(spaced (L.take k)).toArray⟩ ∧ (spaced (L.take k)).length ≤ 2000 ∧ w = wr)
    (fun _ i _ => m - (intOf i).toNat)
  case atStart => exact ⟨0, Nat.zero_le _, rfl, rfl, Nat.zero_le _, rfl⟩
  case round =>
    obtain ⟨k, hk, rfl, rfl, hl, hwr⟩ := hrel
    subst hwr
    by_cases hlt : k < m
    · have hkL : k < L.length := by rw [← HM.out]; exact hlt
      obtain ⟨b, o, rfl⟩ := hrd.ats hkL
      have cx := hrd.strs hkL
      have hx := HS.out _ (List.getElem_mem hkL)
      have HK := Lib.hid (HSP.out (k + 1))
      have hT := List.take_succ_eq_append_getElem hkL
      by_cases h0 : k = 0
      · subst h0
        have HX := Lib.hid (show spaced (L.take (0 + 1)) = spaced (L.take 0) ++ L[0] by rw [hT]; rfl)
        generalize L[0] = x at *
        generalize spaced (L.take 0) = p at *
        clear hT hkL
        rw [Nat.add_zero] at cx
        have HQ := Lib.hid (show ((⟨p.toArray⟩ : ByteArray) ++ ⟨x.toArray⟩) = ⟨(p ++ x).toArray⟩ from ba_app p x)
        have hlx : (p ++ x).length = p.length + x.length := by simp only [List.length_append]
        have HLX := Lib.hid hlx
        clear hlx
        by_cases hbig : 2000 < p.length + x.length
        · have HN := Lib.hid (show R = none by rw [HR.out, if_pos]; have := HK.out; rw [HX.out, HLX.out] at this; omega)
          go_wp2_with fail
          go_ret2
          obtain rfl := HN.out
          exact ⟨none, 0, 0, rfl, SlS.nil _, Below.refl _ _⟩
        · go_wp2_with fail
          go_roundw
          case rel => exact ⟨0 + 1, by omega, by go_num, by rw [HX.out, ← HQ.out], by rw [HX.out, HLX.out]; omega, trivial⟩
          case measure => simp [intOf]; omega
      · have HX := Lib.hid (show spaced (L.take (k + 1)) = (spaced (L.take k) ++ [32]) ++ L[k] by
          rw [hT]
          exact spaced_snoc _ _ (by intro h; have := congrArg List.length h; rw [List.length_take, List.length_nil] at this; omega))
        have hk0 : (0 : Int) < (k : Int) := by omega
        generalize L[k] = x at *
        generalize spaced (L.take k) = p at *
        clear hT hkL
        have HP := Lib.hid (show ((⟨p.toArray⟩ : ByteArray) ++ ⟨#[32]⟩) = ⟨(p ++ [32]).toArray⟩ from ba_app p [32])
        have HQ := Lib.hid (show ((⟨(p ++ [32]).toArray⟩ : ByteArray) ++ ⟨x.toArray⟩) = ⟨((p ++ [32]) ++ x).toArray⟩ from ba_app _ x)
        have hlx : ((p ++ [32]) ++ x).length = p.length + 1 + x.length := by simp only [List.length_append, List.length_cons, List.length_nil]
        by_cases hbig : 2000 < p.length + 1 + x.length
        · have HN := Lib.hid (show R = none by rw [HR.out, if_pos]; have := HK.out; rw [HX.out, hlx] at this; omega)
          have HLX := Lib.hid hlx
          clear hlx
          go_wp2_with fail
          go_ret2
          obtain rfl := HN.out
          exact ⟨none, 0, 0, rfl, SlS.nil _, Below.refl _ _⟩
        · have HLX := Lib.hid hlx
          clear hlx
          go_wp2_with fail
          go_roundw
          case rel => exact ⟨k + 1, by omega, by go_num, by rw [HX.out, ← HQ.out, ← HP.out], by rw [HX.out, HLX.out]; omega, trivial⟩
          case measure => simp [intOf]; omega
    · obtain rfl : m = k := by omega
      have htk : L.take m = L := by rw [HM.out, List.take_length]
      rw [htk] at hl ⊢
      have hno : ¬ 2000 < m - 1 + sumL L := by rw [← HSL.out]; omega
      have HY := Lib.hid (show R = boundL [spaced L] by rw [HR.out, if_neg hno, HBS.out hno])
      have CB := Lib.hid (rbound_any (some ⟨w.heap.size, 0, none⟩) 1 1 [spaced L] (w.alloc (.cells #[.string ⟨(spaced L).toArray⟩] 9)) (SlS.one w (spaced L)) (by show 1 ≤ 1000000; decide) (fun s hs => by
        rw [List.mem_singleton] at hs
        subst hs
        omega))
      rw [← HY.out] at CB
      generalize spaced L = r at *
      clear hno htk hlt
      go_wp2_with fail
      refine CB.out.mono ?_
      rintro e w2 ⟨A2, n2, c2, rfl, hs2, hb2⟩
      have hb1 := below1 w (.cells #[.string ⟨r.toArray⟩] 9)
      go_wp2_with fail
      go_ret2
      exact ⟨A2, n2, c2, rfl, hs2, hb1.trans (hb2.mono hb1.size)⟩
set_option maxRecDepth 100000 in
set_option maxHeartbeats 2000000 in
theorem rglob_any (v0 vN : Value) (L N : List (List UInt8)) (w : World) (hv : SlS w v0 L) (hL : Thin L) (hvn : SlS w vN N) (hN : Sml N) (hpl : ∀ s ∈ L, (plainL s).length ≤ 1000000) :
    Calls Tryz.prog 19 #[v0, vN] w (GoodRet (eachL (globOf N) L) w) := by
  obtain ⟨i0, hi, hz0, hz1, hz2⟩ := info_parts infoStr
  obtain ⟨R, hR⟩ : ∃ R, R = eachL (globOf N) L := ⟨_, rfl⟩
  rw [← hR]
  have HR0 := Lib.hid (show R = eachGo (globOf N) (L.drop 0) [] from hR)
  clear hR
  obtain ⟨A0, c0, rfl, hrd, _⟩ := hv
  obtain ⟨AN, cN, hvn0, _⟩ := id hvn
  subst hvn0
  obtain ⟨n, hn0⟩ : ∃ n, n = L.length := ⟨_, rfl⟩
  have hn : n ≤ 1000000 := by rw [hn0]; exact hL.1
  rw [← hn0]
  have HN := Lib.hid hn0
  have HL := Lib.hid hL.2
  have HPL := Lib.hid hpl
  have HSN := Lib.hid hN
  have HVN := Lib.hid hvn
  have hNl := hN.1
  generalize N.length = nN at *
  clear hn0 hL hpl hN hvn
  go_enter Tryz.func19, Tryz.ntmps19
  go_wp2_with fail
  go_loopw [6, 7] (fun v i wr => ∃ (k : Nat) (acc : List (List UInt8)), k ≤ n ∧ i = .int .i64 k ∧ acc.length ≤ 100 ∧ OwnS wr w.heap.size v acc ∧ Below w.heap.size w wr ∧ Hid (∀ s ∈ acc, s.length ≤ 140737488355328) ∧ Hid (R = eachGo (globOf N) (L.drop k) acc))
    (fun _ i _ => n - (intOf i).toNat)
  case atStart => exact ⟨0, [], Nat.zero_le _, rfl, Nat.zero_le _, OwnS.nil _ _, Below.refl _ _, Lib.hid (fun s hs => by cases hs), HR0⟩
  case round =>
    clear HR0
    obtain ⟨k, acc, hk, rfl, hak, hown, hbw, HSA, H⟩ := hrel
    by_cases hlt : k < n
    · have hkL : k < L.length := by rw [← HN.out]; exact hlt
      obtain ⟨b, o, rfl⟩ := hrd.ats hkL
      have cx := (hrd.below hbw).strs hkL
      have hsx := HL.out _ (List.getElem_mem hkL)
      have hpx := HPL.out _ (List.getElem_mem hkL)
      have HD := Lib.hid (List.drop_eq_getElem_cons hkL)
      generalize L[k] = x at *
      have HG := Lib.hid (show R = if 100 < (acc ++ globOf N x).length then none else eachGo (globOf N) (L.drop (k + 1)) (acc ++ globOf N x) by rw [H.out, HD.out, eachGo])
      have HGX := Lib.hid (show globOf N x = if liveL x then (if 0 < (filesL x N).length then filesL x N else [plainL x]) else [plainL x] from rfl)
      have hfm : ∀ s ∈ filesL x N, s.length ≤ 1000000 := fun s hs => HSN.out.2 s (((files_spec x N).2 s).1 hs).1
      have HSA2 := Lib.hid (show ∀ s ∈ acc ++ globOf N x, s.length ≤ 140737488355328 from fun s hs => (List.mem_append.1 hs).elim (HSA.out s) (fun h => by
        have h1 : s.length ≤ 1000000 := by
          rw [HGX.out] at h
          split at h
          · split at h
            · exact hfm s h
            · rw [List.mem_singleton] at h; rw [h]; exact hpx
          · rw [List.mem_singleton] at h; rw [h]; exact hpx
        omega))
      have hxl := globOf_len N x (HSN.out).1
      have CL := Lib.hid (live2_l x wr (by omega))
      have CF := Lib.hid (fun W (hb : Below w.heap.size w W) => files2_l x (.slice AN nN cN) N W (HVN.out.below hb) HSN.out (by omega))
      have CP := Lib.hid (fun W => plain2_l x W (by omega))
      generalize globOf N x = y at *
      generalize filesL x N = F at *
      generalize plainL x = p at *
      generalize liveL x = q at *
      clear H HD hkL HSA hfm
      go_wp2_with fail
      refine CL.out.mono ?_
      rintro e w1 ⟨rfl, hb1⟩
      replace hown := hown.below hb1
      replace hbw := hbw.trans (hb1.mono hbw.size)
      replace cx := cell_keep hb1 cx
      clear CL hb1
      cases q with
      | false =>
        obtain rfl : y = [p] := HGX.out
        go_wp2_with fail
        refine (CP.out _).mono ?_
        rintro e w4 ⟨rfl, hb4⟩
        replace hown := hown.below hb4
        replace hbw := hbw.trans (hb4.mono hbw.size)
        have hown0 := hown.below (below1 w4 (.cells #[.string ⟨p.toArray⟩] 9))
        have hbw0 := hbw.alloc hbw.size (.cells #[.string ⟨p.toArray⟩] 9)
        obtain ⟨A1, c1, he1, hrx, hAx, hxc, hxm⟩ := SlS.one w4 p
        injection he1 with he1 he2 he3
        subst he1 he3
        clear he2 hxc hxm
        go_upto_region 10 with (fail)
        replace hown := hown0
        replace hbw := hbw0
        clear hown0 hbw0 hb4 cx
        generalize w4.alloc (.cells #[.string ⟨p.toArray⟩] 9) = w5 at *
        obtain ⟨na, hna⟩ : ∃ na, na = acc.length := ⟨_, rfl⟩
        have HNA := Lib.hid hna
        have HNX := Lib.hid (show 1 = [p].length from rfl)
        unfold OwnS at hown
        rw [← hna] at hak hown
        clear hna
        go_upto_region 11 with (at_builtin; refine wpList_pushAll (enc := strc) rfl _ _ _ rfl Tryz.underlying23 hi hz0 hz1 hz2 rfl (by decide) hown rfl rfl HNX.out hrx hAx trivial strc_len strc_one (by omega) (by decide) hbw.size ?_; intro A2 c2 w2 ho2 hb2 hoo2)
        have hlen : (acc ++ [p]).length = na + 1 := by rw [List.length_append, ← HNA.out, ← HNX.out]
        have HO := Lib.hid (show OwnS w2 w.heap.size (.slice A2 (na + 1) c2) (acc ++ [p]) by unfold OwnS; rw [hlen, List.flatMap_append]; exact ho2)
        have HLEN := Lib.hid hlen
        have hbz := hbw.trans hb2
        clear hown ho2 hoo2 hb2 hrx hlen hAx
        generalize na + 1 = nn at *
        by_cases hbig : 100 < nn
        · have HR := Lib.hid (show R = none by rw [HG.out, if_pos (by rw [HLEN.out]; exact hbig)])
          go_wp2_with fail
          go_ret2
          obtain rfl := HR.out
          exact ⟨none, 0, 0, rfl, SlS.nil _, hbz⟩
        · have HR := Lib.hid (show R = eachGo (globOf N) (L.drop (k + 1)) (acc ++ [p]) by rw [HG.out, if_neg (by rw [HLEN.out]; exact hbig)])
          go_wp2_with fail
          go_roundw
          case rel => exact ⟨k + 1, acc ++ [p], by omega, by go_num, by rw [HLEN.out]; omega, HO.out, hbz, HSA2, HR⟩
          case measure => simp [intOf]; omega
      | true =>
        go_wp2_with fail
        refine (CF.out _ hbw).mono ?_
        rintro e w3 ⟨v3, rfl, hs3, hb3⟩
        replace hown := hown.below hb3
        replace hbw := hbw.trans (hb3.mono hbw.size)
        replace cx := cell_keep hb3 cx
        obtain ⟨A1, c1, rfl, hrx, hAx, hxc, hxm⟩ := hs3
        have HGY := Lib.hid (show y = if 0 < F.length then F else [p] by rw [HGX.out]; rfl)
        clear CF hb3 HGX
        by_cases h0 : F.length = 0
        · obtain rfl : y = [p] := by rw [HGY.out, if_neg (by omega)]
          rw [h0]
          clear hrx hAx hxc hxm h0
          go_wp2_with fail
          refine (CP.out _).mono ?_
          rintro e w4 ⟨rfl, hb4⟩
          replace hown := hown.below hb4
          replace hbw := hbw.trans (hb4.mono hbw.size)
          have hown0 := hown.below (below1 w4 (.cells #[.string ⟨p.toArray⟩] 9))
          have hbw0 := hbw.alloc hbw.size (.cells #[.string ⟨p.toArray⟩] 9)
          obtain ⟨A1, c1, he1, hrx, hAx, hxc, hxm⟩ := SlS.one w4 p
          injection he1 with he1 he2 he3
          subst he1 he3
          clear he2 hxc hxm
          go_upto_region 10 with (fail)
          replace hown := hown0
          replace hbw := hbw0
          clear hown0 hbw0 hb4 cx
          generalize w4.alloc (.cells #[.string ⟨p.toArray⟩] 9) = w5 at *
          obtain ⟨na, hna⟩ : ∃ na, na = acc.length := ⟨_, rfl⟩
          have HNA := Lib.hid hna
          have HNX := Lib.hid (show 1 = [p].length from rfl)
          unfold OwnS at hown
          rw [← hna] at hak hown
          clear hna
          go_upto_region 11 with (at_builtin; refine wpList_pushAll (enc := strc) rfl _ _ _ rfl Tryz.underlying23 hi hz0 hz1 hz2 rfl (by decide) hown rfl rfl HNX.out hrx hAx trivial strc_len strc_one (by omega) (by decide) hbw.size ?_; intro A2 c2 w2 ho2 hb2 hoo2)
          have hlen : (acc ++ [p]).length = na + 1 := by rw [List.length_append, ← HNA.out, ← HNX.out]
          have HO := Lib.hid (show OwnS w2 w.heap.size (.slice A2 (na + 1) c2) (acc ++ [p]) by unfold OwnS; rw [hlen, List.flatMap_append]; exact ho2)
          have HLEN := Lib.hid hlen
          have hbz := hbw.trans hb2
          clear hown ho2 hoo2 hb2 hrx hlen hAx
          generalize na + 1 = nn at *
          by_cases hbig : 100 < nn
          · have HR := Lib.hid (show R = none by rw [HG.out, if_pos (by rw [HLEN.out]; exact hbig)])
            go_wp2_with fail
            go_ret2
            obtain rfl := HR.out
            exact ⟨none, 0, 0, rfl, SlS.nil _, hbz⟩
          · have HR := Lib.hid (show R = eachGo (globOf N) (L.drop (k + 1)) (acc ++ [p]) by rw [HG.out, if_neg (by rw [HLEN.out]; exact hbig)])
            go_wp2_with fail
            go_roundw
            case rel => exact ⟨k + 1, acc ++ [p], by omega, by go_num, by rw [HLEN.out]; omega, HO.out, hbz, HSA2, HR⟩
            case measure => simp [intOf]; omega
        · obtain rfl : y = F := by rw [HGY.out, if_pos (by omega)]
          have hq0 : ((y.length : Int) == 0) = false := by rw [beq_eq_false_iff_ne]; omega
          clear h0 cx HGY CP
          obtain ⟨na, hna⟩ : ∃ na, na = acc.length := ⟨_, rfl⟩
          obtain ⟨nx, hnx⟩ : ∃ nx, nx = y.length := ⟨_, rfl⟩
          have HNA := Lib.hid hna
          have HNX := Lib.hid hnx
          unfold OwnS at hown
          rw [← hna] at hak hown
          rw [← hnx] at hxl hxc hq0 ⊢
          clear hna hnx
          go_upto_region 11 with (at_builtin; refine wpList_pushAll (enc := strc) rfl _ _ _ rfl Tryz.underlying23 hi hz0 hz1 hz2 rfl (by decide) hown rfl rfl HNX.out hrx hAx trivial strc_len strc_one (by omega) (by decide) hbw.size ?_; intro A2 c2 w2 ho2 hb2 hoo2)
          have hlen : (acc ++ y).length = na + nx := by rw [List.length_append, ← HNA.out, ← HNX.out]
          have HO := Lib.hid (show OwnS w2 w.heap.size (.slice A2 (na + nx) c2) (acc ++ y) by unfold OwnS; rw [hlen, List.flatMap_append]; exact ho2)
          have HLEN := Lib.hid hlen
          have hbz := hbw.trans hb2
          clear hown ho2 hoo2 hb2 hrx hlen hAx
          generalize na + nx = nn at *
          by_cases hbig : 100 < nn
          · have HR := Lib.hid (show R = none by rw [HG.out, if_pos (by rw [HLEN.out]; exact hbig)])
            go_wp2_with fail
            go_ret2
            obtain rfl := HR.out
            exact ⟨none, 0, 0, rfl, SlS.nil _, hbz⟩
          · have HR := Lib.hid (show R = eachGo (globOf N) (L.drop (k + 1)) (acc ++ y) by rw [HG.out, if_neg (by rw [HLEN.out]; exact hbig)])
            go_wp2_with fail
            go_roundw
            case rel => exact ⟨k + 1, acc ++ y, by omega, by go_num, by rw [HLEN.out]; omega, HO.out, hbz, HSA2, HR⟩
            case measure => simp [intOf]; omega
    · obtain rfl : n = k := by omega
      have HF := Lib.hid (show R = boundL acc by rw [H.out, HN.out, List.drop_length, eachGo])
      have hra := hown.rd
      obtain ⟨A, c, rfl, _⟩ := hra
      have CB := Lib.hid (rbound_any _ _ _ acc wr hown.rd (by omega) (by first | exact HSA.out | exact HSA))
      rw [← HF.out] at CB
      clear H hlt HF
      go_wp2_with fail
      refine CB.out.mono ?_
      rintro e w2 ⟨A2, n2, c2, rfl, hs2, hb2⟩
      go_wp2_with fail
      go_ret2
      exact ⟨A2, n2, c2, rfl, hs2, hbw.trans (hb2.mono hbw.size)⟩
end Go.Proofs.YtlhpflilpdceiaaGreatDoor
