/- The walks over the document's own Fits, fits, Cat, SplitAll. Bounds on the lengths. -/
import Derived.Test.YtlhpflilpdceiaaGreatDoorListW9
import Derived.Test.YtlhpflilpdceiaaGreatDoorRef2W6
import Derived.Outline
set_option linter.unusedVariables false
set_option linter.unusedSimpArgs false
namespace Go.Proofs.YtlhpflilpdceiaaGreatDoor
open Go.RowKit

/-- A list and true, or none and false. -/
def GoodRet (r : Option (List (List UInt8))) (w : World) (e : Ending) (w' : World) : Prop := ∃ A n c, e = .returned (.tuple #[.slice A n c, .bool r.isSome]) ∧ SlS w' (.slice A n c) (r.getD []) ∧ Below w.heap.size w w'
theorem GoodRet.up {r : Option (List (List UInt8))} {w w0 : World} {e : Ending} {w' : World} (h : GoodRet r w e w') (hb : Below w0.heap.size w0 w) : GoodRet r w0 e w' :=
  let ⟨A, n, c, h1, h2, h3⟩ := h
  ⟨A, n, c, h1, h2, hb.trans (h3.mono hb.size)⟩

set_option maxHeartbeats 2000000 in
theorem rfits_any (v : Value) (L : List (List UInt8)) (w : World) (hv : SlS w v L) (hL : L.length ≤ 1000000) (hs : ∀ s ∈ L, s.length ≤ 140737488355328) :
    Calls Tryz.prog 28 #[v] w (Ret w (.bool (!bigL L))) := by
  obtain ⟨A0, c0, rfl, hrd, _⟩ := hv
  have HB := Lib.hid (show bigL L = (decide (100 < L.length) || L.any longT) from rfl)
  have HS := Lib.hid hs
  obtain ⟨m, hm⟩ : ∃ m, m = L.length := ⟨_, rfl⟩
  rw [← hm] at hL HB ⊢
  have HM := Lib.hid hm
  generalize bigL L = bb at *
  clear hm hs
  by_cases h100 : 100 < m
  · obtain rfl : bb = true := by rw [HB.out, decide_eq_true h100]; rfl
    go_enter Tryz.func28, Tryz.ntmps28
    go_wp2_with fail
    go_ret
    exact ⟨rfl, Below.refl _ _⟩
  · have HB2 := Lib.hid (show bb = L.any longT by rw [HB.out, decide_eq_false h100]; rfl)
    clear HB
    go_enter Tryz.func28, Tryz.ntmps28
    go_wp2_with fail
    go_loopw [3] (fun i wr => ∃ k : Nat, k ≤ m ∧ i = .int .i64 k ∧ w = wr ∧ Hid ((L.take k).any longT = false)) (fun i _ => m - (intOf i).toNat)
    case atStart => exact ⟨0, Nat.zero_le _, rfl, rfl, Lib.hid (by simp)⟩
    case round =>
      obtain ⟨k, hk, rfl, hwr, H⟩ := hrel
      subst hwr
      by_cases hlt : k < m
      · have hkL : k < L.length := by rw [← HM.out]; exact hlt
        obtain ⟨b, o, rfl⟩ := hrd.ats hkL
        have c0 := hrd.strs hkL
        have HT := Lib.hid (List.take_succ_eq_append_getElem hkL)
        have HX := Lib.hid (List.getElem_mem hkL)
        have hxl := HS.out _ (List.getElem_mem hkL)
        generalize L[k] = x at *
        clear hkL
        by_cases hx : 2000 < x.length
        · have HF := Lib.hid (show bb = true by rw [HB2.out]; exact List.any_eq_true.2 ⟨x, HX.out, (longT_iff x).2 hx⟩)
          go_wp2_with fail
          go_ret
          obtain rfl := HF.out
          exact ⟨rfl, Below.refl _ _⟩
        · have HN := Lib.hid (show (L.take (k + 1)).any longT = false by
            rw [HT.out, List.any_append, H.out, Bool.false_or, List.any_cons, List.any_nil, Bool.or_false]
            unfold longT
            exact decide_eq_false hx)
          clear H
          go_wp2_with fail
          go_roundw
          case rel => exact ⟨k + 1, by omega, by go_num, trivial, HN⟩
          case measure => simp [intOf]; omega
      · obtain rfl : m = k := by omega
        have HF := Lib.hid (show bb = false by
          have h := H.out
          rw [HB2.out]
          rwa [List.take_of_length_le (by rw [← HM.out]; exact Nat.le_refl _)] at h)
        clear H
        go_wp2_with fail
        go_ret
        obtain rfl := HF.out
        exact ⟨rfl, Below.refl _ _⟩
theorem rbound_any (A : Option Addr) (n c : Nat) (L : List (List UInt8)) (w : World) (hv : SlS w (.slice A n c) L) (hL : L.length ≤ 1000000) (hs : ∀ s ∈ L, s.length ≤ 140737488355328) :
    Calls Tryz.prog 30 #[.slice A n c] w (GoodRet (boundL L) w) := by
  have HF := Lib.hid (rfits_any _ L w hv hL hs)
  have HV := Lib.hid hv
  unfold boundL
  cases hbb : bigL L with
  | true =>
    rw [hbb] at HF
    clear hbb hv
    rw [if_pos rfl]
    go_enter Tryz.func30, Tryz.ntmps30
    go_wp2_with fail
    refine HF.out.mono ?_
    rintro e w1 ⟨rfl, hb1⟩
    go_wp2_with fail
    go_ret2
    exact ⟨none, 0, 0, rfl, SlS.nil _, hb1⟩
  | false =>
    rw [hbb] at HF
    clear hbb hv
    rw [if_neg Bool.noConfusion]
    go_enter Tryz.func30, Tryz.ntmps30
    go_wp2_with fail
    refine HF.out.mono ?_
    rintro e w1 ⟨rfl, hb1⟩
    go_wp2_with fail
    go_ret2
    exact ⟨A, n, c, rfl, HV.out.below hb1, hb1⟩
set_option maxRecDepth 100000 in
set_option maxHeartbeats 2000000 in
theorem rcat_any (A0 : Option Addr) (c0 : Nat) (ls : List (List (List UInt8))) (w : World) (hK : KdS w A0 ls) (hn : ls.length ≤ 1000000) (hl : ∀ x ∈ ls, Sml x) :
    Calls Tryz.prog 7 #[.slice A0 ls.length c0] w (GoodRet (catL ls) w) := by
  obtain ⟨i0, hi, hz0, hz1, hz2⟩ := info_parts infoStr
  obtain ⟨R, hR⟩ : ∃ R, R = catL ls := ⟨_, rfl⟩
  rw [← hR]
  have HR0 := Lib.hid (show R = catGo (ls.drop 0) [] from hR)
  clear hR
  obtain ⟨n, hn0⟩ : ∃ n, n = ls.length := ⟨_, rfl⟩
  rw [← hn0] at hn ⊢
  have HN := Lib.hid hn0
  have HL := Lib.hid hl
  clear hn0 hl
  go_enter Tryz.func7, Tryz.ntmps7
  go_wp2_with fail
  go_loopw [4, 5] (fun v i wr => ∃ (k : Nat) (acc : List (List UInt8)), k ≤ n ∧ i = .int .i64 k ∧ acc.length ≤ 100 ∧ OwnS wr w.heap.size v acc ∧ Below w.heap.size w wr ∧ Hid (∀ s ∈ acc, s.length ≤ 140737488355328) ∧ Hid (R = catGo (ls.drop k) acc))
    (fun _ i _ => n - (intOf i).toNat)
  case atStart => exact ⟨0, [], Nat.zero_le _, rfl, Nat.zero_le _, OwnS.nil _ _, Below.refl _ _, Lib.hid (fun s hs => by cases hs), HR0⟩
  case round =>
    obtain ⟨k, acc, hk, rfl, hak, hown, hbw, HSA, H⟩ := hrel
    by_cases hlt : k < n
    · have hkL : k < ls.length := by rw [← HN.out]; exact hlt
      obtain ⟨b, o, rfl⟩ := hK.addr hkL
      obtain ⟨v, cv, hsv⟩ := (hK.below hbw).at_ hkL
      have hxl := (HL.out _ (List.getElem_mem hkL)).1
      have HXS := Lib.hid (HL.out _ (List.getElem_mem hkL)).2
      have HD := Lib.hid (List.drop_eq_getElem_cons hkL)
      obtain ⟨x, hx⟩ : ∃ x, x = ls[k] := ⟨_, rfl⟩
      rw [← hx] at hsv hxl HD HXS
      clear hx hkL
      obtain ⟨A1, c1, rfl, hrx, hAx, hxc, hxm⟩ := hsv
      have HG := Lib.hid (show R = if 100 < (acc ++ x).length then none else catGo (ls.drop (k + 1)) (acc ++ x) by rw [H.out, HD.out, catGo])
      have HSA2 := Lib.hid (show ∀ s ∈ acc ++ x, s.length ≤ 140737488355328 from fun s hs => (List.mem_append.1 hs).elim (HSA.out s) (fun h => by have := HXS.out s h; omega))
      clear H HSA HXS
      obtain ⟨na, hna⟩ : ∃ na, na = acc.length := ⟨_, rfl⟩
      obtain ⟨nx, hnx⟩ : ∃ nx, nx = x.length := ⟨_, rfl⟩
      have HNA := Lib.hid hna
      have HNX := Lib.hid hnx
      unfold OwnS at hown
      rw [← hna] at hak hown
      rw [← hnx] at hxl hxc cv
      clear hna hnx
      go_upto_region 6 with (at_builtin; refine wpList_pushAll (enc := strc) rfl _ _ _ rfl Tryz.underlying23 hi hz0 hz1 hz2 rfl (by decide) hown rfl rfl HNX.out hrx hAx trivial strc_len strc_one (by omega) (by decide) hbw.size ?_; intro A2 c2 w2 ho2 hb2 hoo2)
      have hlen : (acc ++ x).length = na + nx := by rw [List.length_append, ← HNA.out, ← HNX.out]
      have HO := Lib.hid (show OwnS w2 w.heap.size (.slice A2 (na + nx) c2) (acc ++ x) by unfold OwnS; rw [hlen, List.flatMap_append]; exact ho2)
      have HLEN := Lib.hid hlen
      have hbz := hbw.trans hb2
      clear hown ho2 hoo2 hb2 hrx hlen cv hAx
      generalize na + nx = nn at *
      by_cases hbig : 100 < nn
      · have HR := Lib.hid (show R = none by rw [HG.out, if_pos (by rw [HLEN.out]; exact hbig)])
        go_wp2_with fail
        go_ret2
        obtain rfl := HR.out
        exact ⟨none, 0, 0, rfl, SlS.nil _, hbz⟩
      · have HR := Lib.hid (show R = catGo (ls.drop (k + 1)) (acc ++ x) by rw [HG.out, if_neg (by rw [HLEN.out]; exact hbig)])
        go_wp2_with fail
        go_roundw
        case rel => exact ⟨k + 1, acc ++ x, by omega, by go_num, by rw [HLEN.out]; omega, HO.out, hbz, HSA2, HR⟩
        case measure => simp [intOf]; omega
    · obtain rfl : n = k := by omega
      have HF := Lib.hid (show R = boundL acc by rw [H.out, HN.out, List.drop_length, catGo])
      have hra := hown.rd
      obtain ⟨A, c, rfl, _⟩ := hra
      have CB := Lib.hid (rbound_any _ _ _ acc wr hown.rd (by omega) (by first | exact HSA.out | exact HSA))
      rw [← HF.out] at CB
      clear H hlt HF
      go_wp2_with fail
      refine CB.out.mono ?_
      rintro e w2 ⟨A2, n2, c2, rfl, hs2, hb2⟩
      go_wp2_with fail
      go_ret2
      exact ⟨A2, n2, c2, rfl, hs2, hbw.trans (hb2.mono hbw.size)⟩
end Go.Proofs.YtlhpflilpdceiaaGreatDoor
