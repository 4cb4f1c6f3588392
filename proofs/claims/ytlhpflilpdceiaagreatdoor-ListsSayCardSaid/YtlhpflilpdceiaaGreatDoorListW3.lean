/- The walk over lists.Cat: the lists one behind the other, if these are not too big. Bounds on the lengths. -/
import Derived.Test.YtlhpflilpdceiaaGreatDoorJE
import Derived.Test.YtlhpflilpdceiaaGreatDoorLater
import Derived.Test.YtlhpflilpdceiaaGreatDoorJD
set_option linter.unusedVariables false
set_option linter.unusedSimpArgs false
namespace Go.Proofs.YtlhpflilpdceiaaGreatDoor
open Go.RowKit

def ones (v : Value) : List Value := [v]
theorem ones_len (v : Value) : (ones v).length = 1 := rfl
/-- The values of a row read as lists of texts. -/
def AllS (w : World) (vs : List Value) (ls : List (List (List UInt8))) : Prop := vs.length = ls.length ∧ ∀ i (h : i < ls.length) v, vs[i]? = some v → SlS w v ls[i]
theorem AllS.below {w w' : World} {vs : List Value} {ls : List (List (List UInt8))} (h : AllS w vs ls) (hb : Below w.heap.size w w') : AllS w' vs ls := ⟨h.1, fun i hi v hv => (h.2 i hi v hv).below hb⟩
theorem AllS.nil (w : World) : AllS w [] [] := ⟨rfl, fun i h => absurd h (Nat.not_lt_zero _)⟩
theorem AllS.cons {w : World} {v : Value} {l : List (List UInt8)} {vs : List Value} {ls : List (List (List UInt8))} (h : SlS w v l) (h' : AllS w vs ls) : AllS w (v :: vs) (l :: ls) := by
  refine ⟨by simp [h'.1], fun i hi u hu => ?_⟩
  cases i with
  | zero =>
    simp only [List.getElem?_cons_zero, Option.some.injEq] at hu
    subst hu
    exact h
  | succ i => exact h'.2 i (by simpa using hi) u (by simpa using hu)
/-- From an address on: a row of slice values that read as lists of texts. -/
def KdS (w : World) (A : Option Addr) (ls : List (List (List UInt8))) : Prop := ∃ vs, RdL w 1 ones A vs ∧ AllS w vs ls
theorem KdS.below {w w' : World} {A : Option Addr} {ls : List (List (List UInt8))} (h : KdS w A ls) (hb : Below w.heap.size w w') : KdS w' A ls :=
  let ⟨vs, h1, h2⟩ := h
  ⟨vs, h1.below hb, h2.below hb⟩
theorem KdS.addr {w : World} {A : Option Addr} {ls : List (List (List UInt8))} (h : KdS w A ls) {k : Nat} (hk : k < ls.length) : ∃ b o, A = some ⟨b, o, none⟩ := by
  obtain ⟨vs, h1, h2, h3⟩ := h
  obtain ⟨b, o, hA, _⟩ := h1 k (by omega)
  exact ⟨b, o, hA⟩
theorem KdS.at_ {w : World} {b o : Nat} {ls : List (List (List UInt8))} (h : KdS w (some ⟨b, o, none⟩) ls) {k : Nat} (hk : k < ls.length) :
    ∃ v, w.cell? ⟨b, o + k, none⟩ = some v ∧ SlS w v ls[k] := by
  obtain ⟨vs, h1, h2, h3⟩ := h
  obtain ⟨b', o', hA, hb, hc⟩ := h1 k (by omega)
  injection hA with hA
  injection hA with e1 e2
  subst e1 e2
  have := hc 0 _ rfl
  rw [Nat.mul_one, Nat.add_zero] at this
  exact ⟨vs[k], this, h3 k hk _ (List.getElem?_eq_getElem _)⟩
theorem KdS.drop {w : World} {b o : Nat} {ls : List (List (List UInt8))} (h : KdS w (some ⟨b, o, none⟩) ls) (n : Nat) : KdS w (some ⟨b, o + n, none⟩) (ls.drop n) := by
  obtain ⟨vs, h1, h2, h3⟩ := h
  refine ⟨vs.drop n, h1.drop n fun b' o' he _ => ?_, by simp [h2], fun i hi v hv => ?_⟩
  · injection he with he
    injection he with e1 e2
    subst e1 e2
    rw [Nat.mul_one]
  · rw [List.getElem?_drop] at hv
    rw [List.getElem_drop]
    exact h3 (n + i) (by simp at hi; omega) v hv
/-- A row of slice values just laid. -/
theorem KdS.lit {w : World} {vs : Array Value} {ls : List (List (List UInt8))} (h : AllS w vs.toList ls) : KdS (w.alloc (.cells vs 23)) (some ⟨w.heap.size, 0, none⟩) ls := by
  refine ⟨vs.toList, fun k hk => ⟨w.heap.size, 0, rfl, by rw [World.alloc]; simp, fun j u hu => ?_⟩, h.below ((Below.refl _ _).alloc (Nat.le_refl _) _)⟩
  have hj : j = 0 := by
    have := (List.getElem?_eq_some_iff.1 hu).1
    rw [ones_len] at this
    omega
  subst hj
  rw [cell_of_row _ _ _ _ _ _ (heap_alloc_new w _)]
  simp only [ones, List.getElem?_cons_zero, Option.some.injEq] at hu
  subst hu
  simp only [Array.length_toList] at hk
  simp [hk]

set_option maxRecDepth 100000 in
set_option maxHeartbeats 2000000 in
theorem cat_any (A0 : Option Addr) (c0 : Nat) (ls : List (List (List UInt8))) (a : Addr) (w : World) (hK : KdS w A0 ls) (hn : ls.length ≤ 1000000) (hl : ∀ x ∈ ls, x.length ≤ 1000000) (hE : BigW w a) :
    Calls Tryz.prog 6 #[.slice A0 ls.length c0] w (ListRet (catL ls) a w) := by
  obtain ⟨i0, hi, hz0, hz1, hz2⟩ := info_parts infoStr
  obtain ⟨R, hR⟩ : ∃ R, R = catL ls := ⟨_, rfl⟩
  rw [← hR]
  have HR0 := Lib.hid (show R = catGo (ls.drop 0) [] from hR)
  clear hR
  obtain ⟨n, hn0⟩ : ∃ n, n = ls.length := ⟨_, rfl⟩
  rw [← hn0] at hn ⊢
  have HN := Lib.hid hn0
  have HL := Lib.hid hl
  have HE := Lib.hid hE
  clear hn0 hl
  unfold BigW bigV at hE
  go_enter Tryz.func6, Tryz.ntmps6
  go_wp2_with fail
  go_loopw [4, 9] (fun v i wr => ∃ (k : Nat) (acc : List (List UInt8)), k ≤ n ∧ i = .int .i64 k ∧ acc.length ≤ 100 ∧ OwnS wr w.heap.size v acc ∧ Below w.heap.size w wr ∧ Hid (R = catGo (ls.drop k) acc))
    (fun _ i _ => n - (intOf i).toNat)
  case atStart => exact ⟨0, [], Nat.zero_le _, rfl, Nat.zero_le _, OwnS.nil _ _, Below.refl _ _, HR0⟩
  case round =>
    obtain ⟨k, acc, hk, rfl, hak, hown, hbw, H⟩ := hrel
    by_cases hlt : k < n
    · have hkL : k < ls.length := by rw [← HN.out]; exact hlt
      obtain ⟨b, o, rfl⟩ := hK.addr hkL
      obtain ⟨v, cv, hsv⟩ := (hK.below hbw).at_ hkL
      have hxl := HL.out _ (List.getElem_mem hkL)
      have HD := Lib.hid (List.drop_eq_getElem_cons hkL)
      obtain ⟨x, hx⟩ : ∃ x, x = ls[k] := ⟨_, rfl⟩
      rw [← hx] at hsv hxl HD
      clear hx hkL
      obtain ⟨A1, c1, rfl, hrx, hAx, hxc, hxm⟩ := hsv
      have HG := Lib.hid (show R = if 100 < (acc ++ x).length then none else catGo (ls.drop (k + 1)) (acc ++ x) by rw [H.out, HD.out, catGo])
      clear H
      obtain ⟨na, hna⟩ : ∃ na, na = acc.length := ⟨_, rfl⟩
      obtain ⟨nx, hnx⟩ : ∃ nx, nx = x.length := ⟨_, rfl⟩
      have HNA := Lib.hid hna
      have HNX := Lib.hid hnx
      unfold OwnS at hown
      rw [← hna] at hak hown
      rw [← hnx] at hxl hxc cv
      clear hna hnx
      go_upto_region 6 with (at_builtin; refine wpList_pushAll (enc := strc) rfl _ _ _ rfl Tryz.underlying23 hi hz0 hz1 hz2 rfl (by decide) hown rfl rfl HNX.out hrx hAx trivial strc_len strc_one (by omega) (by decide) hbw.size ?_; intro A2 c2 w2 ho2 hb2 hoo2)
      have hlen : (acc ++ x).length = na + nx := by rw [List.length_append, ← HNA.out, ← HNX.out]
      have HO := Lib.hid (show OwnS w2 w.heap.size (.slice A2 (na + nx) c2) (acc ++ x) by unfold OwnS; rw [hlen, List.flatMap_append]; exact ho2)
      have HLEN := Lib.hid hlen
      have hbz := hbw.trans hb2
      have hE2 := cell_keep hbz hE
      clear hown ho2 hoo2 hb2 hrx hlen cv hAx
      generalize na + nx = nn at *
      by_cases hbig : 100 < nn
      · have HR := Lib.hid (show R = none by rw [HG.out, if_pos (by rw [HLEN.out]; exact hbig)])
        have l0 := Later.cell hE2
        go_upto_region 7 with (fail)
        refine wp_region_eq (by kernel_rfl) (by kernel_rfl) ?_
        apply EqGo.run
        focus
          kernel_rfl
        focus
          intro x K hK
          go_wp2_with fail
          first | exact hK x (Below.refl _ _) | exact Below.refl _ _
        simp only [Act.put, List.setIfInBounds_toArray, List.set_cons_succ, List.set_cons_zero]
        apply EqGo.run
        focus
          kernel_rfl
        focus
          intro x K hK
          go_wp2_with fail
          first | exact hK x (Below.refl _ _) | exact Below.refl _ _
        simp only [Act.put, List.setIfInBounds_toArray, List.set_cons_succ, List.set_cons_zero]
        apply EqGo.run
        focus
          kernel_rfl
        focus
          intro x K hK
          go_wp2_with fail
          first | exact hK x (Below.refl _ _) | exact Below.refl _ _
        simp only [Act.put, List.setIfInBounds_toArray, List.set_cons_succ, List.set_cons_zero]
        intro xq
        have hby := hbz.trans (xq.below.mono hbz.size)
        go_wp2_with fail
        go_ret2
        obtain rfl := HR.out
        exact ⟨rfl, hby⟩
      · have HR := Lib.hid (show R = catGo (ls.drop (k + 1)) (acc ++ x) by rw [HG.out, if_neg (by rw [HLEN.out]; exact hbig)])
        go_wp2_with fail
        go_roundw
        case rel => exact ⟨k + 1, acc ++ x, by omega, by go_num, by rw [HLEN.out]; omega, HO.out, hbz, HR⟩
        case measure => simp [intOf]; omega
    · obtain rfl : n = k := by omega
      have HF := Lib.hid (show R = boundL acc by rw [H.out, HN.out, List.drop_length, catGo])
      have hra := hown.rd
      obtain ⟨A, c, rfl, _⟩ := hra
      have CB := Lib.hid (bound_any _ acc a wr hown.rd (by omega) (HE.out.below hbw))
      rw [← HF.out] at CB
      clear H hlt HF
      go_wp2_with fail
      refine CB.out.mono ?_
      cases R with
      | none =>
        unfold ListRet bigV
        rintro e w2 ⟨rfl, hb2⟩
        go_wp2_with fail
        go_ret2
        exact ⟨rfl, hbw.trans (hb2.mono hbw.size)⟩
      | some r =>
        unfold ListRet
        rintro e w2 ⟨v2, rfl, ho2, hb2⟩
        go_wp2_with fail
        go_ret2
        exact ⟨v2, rfl, ho2.mono hbw.size, hbw.trans (hb2.mono hbw.size)⟩
end Go.Proofs.YtlhpflilpdceiaaGreatDoor
