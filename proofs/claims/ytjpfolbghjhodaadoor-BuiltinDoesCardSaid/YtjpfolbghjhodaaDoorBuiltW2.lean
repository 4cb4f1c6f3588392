/- The walks over text.Parse, and over package builtin's commands that only test, say or take over. Bounds on the lengths. -/
import Derived.Test.YtjpfolbghjhodaaDoorBuiltW1
import Derived.Test.YtjpfolbghjhodaaDoorBuiltM
import Derived.Test.YtjpfolbghjhodaaDoorJoinW
import Derived.Test.YtjpfolbghjhodaaDoorPatW5
import Derived.Test.YtjpfolbghjhodaaDoorPh
set_option linter.unusedVariables false
set_option linter.unusedSimpArgs false
namespace Go.Proofs.YtjpfolbghjhodaaDoor
open Go.RowKit

theorem digB_iff {c : UInt8} : digB c = true ↔ 48 ≤ c.toNat ∧ c.toNat ≤ 57 := by
  unfold digB
  rw [Bool.and_eq_true, decide_eq_true_eq, decide_eq_true_eq]
theorem valG_lt : ∀ (l : List UInt8) (n k : Nat), l.all digB = true → n < 10 ^ k → valG l n < 10 ^ (k + l.length)
  | [], n, k, _, h => by simpa [valG] using h
  | c :: t, n, k, ha, h => by
    rw [List.all_cons, Bool.and_eq_true, digB_iff] at ha
    rw [valG, List.length_cons, show k + (t.length + 1) = (k + 1) + t.length by omega]
    refine valG_lt t _ (k + 1) ha.2 ?_
    rw [Nat.pow_succ]
    omega
theorem val_small {l : List UInt8} (ha : l.all digB = true) (h : l.length ≤ 9) : valG l 0 < 1000000000 := by
  have h1 := valG_lt l 0 0 ha (by decide)
  rw [Nat.zero_add] at h1
  exact Nat.lt_of_lt_of_le h1 (Nat.pow_le_pow_right (by decide) h)
set_option maxRecDepth 100000 in
set_option maxHeartbeats 4000000 in
theorem parse_any (s : ByteArray) (w : World) (hs : s.size ≤ 1000000000) : Calls Tryd.prog 87 #[.string s] w fun e w' => e = .returned (.tuple #[.int .i64 ((parseL s.data.toList).1 : Int), .bool (parseL s.data.toList).2]) ∧ w' = w := by
  obtain ⟨L, hL⟩ : ∃ L, L = s.data.toList := ⟨_, rfl⟩
  have HN := Lib.hid (show L.length = s.size by rw [hL]; rfl)
  have HAT := Lib.hid (show ∀ (k : Nat) (hk : k < s.size) (hk2 : k < L.length), s[k]'hk = L[k]'hk2 from fun k hk hk2 => by subst hL; rfl)
  rw [← hL]
  by_cases h0 : s.size = 0
  · have HP := Lib.hid (show parseL L = (0, false) by unfold parseL; rw [if_pos]; left; have := HN.out; omega)
    have hse : s = ByteArray.empty := by
      apply ByteArray.ext
      exact Array.eq_empty_of_size_eq_zero h0
    subst hse
    rw [HP.out]
    clear hL HN HAT HP h0
    go_enter Tryd.func87, Tryd.ntmps87
    go_wp2_with fail
    go_ret2
    exact ⟨rfl, rfl⟩
  have hne : s.toList.isEmpty = false := by
    rw [Lib.toList_data]
    cases hd : s.data.toList with
    | nil => exfalso; apply h0; have := congrArg List.length hd; simpa using this
    | cons _ _ => rfl
  by_cases h9 : 9 < s.size
  · have HP := Lib.hid (show parseL L = (0, false) by unfold parseL; rw [if_pos]; right; left; have := HN.out; omega)
    rw [HP.out]
    clear hL HN HAT HP
    go_enter Tryd.func87, Tryd.ntmps87
    go_wp2_with fail
    go_ret2
    exact ⟨rfl, rfl⟩
  have h0' : 0 < L.length := by have := HN.out; omega
  obtain ⟨c0, hc0⟩ : ∃ c, c = L[0] := ⟨_, rfl⟩
  have hx0 : ∀ h, s[0]'h = c0 := fun h => by rw [hc0]; exact HAT.out 0 h h0'
  have hpos : 0 < s.size := by omega
  by_cases hz : c0 = 48 ∧ 1 < s.size
  · have HP := Lib.hid (show parseL L = (0, false) by
      unfold parseL
      rw [if_pos]
      right; right
      refine ⟨?_, by have := HN.out; omega⟩
      rw [List.head?_eq_getElem?, List.getElem?_eq_getElem h0', ← hc0, hz.1])
    rw [HP.out]
    obtain ⟨hz1, hz2⟩ := hz
    subst hz1
    clear hL HN HAT HP hc0 h0'
    go_enter Tryd.func87, Tryd.ntmps87
    go_wp2_with fail
    go_ret2
    exact ⟨rfl, rfl⟩
  have HPN := Lib.hid (show parseL L = if L.all digB = true then (valG L 0, true) else (0, false) by
    unfold parseL
    rw [if_neg]
    rintro (h | h | ⟨h, h'⟩)
    · have := HN.out; omega
    · have := HN.out; omega
    · rw [List.head?_eq_getElem?, List.getElem?_eq_getElem h0', ← hc0] at h
      injection h with h
      exact hz ⟨h, by have := HN.out; omega⟩)
  have htest : (((c0.toNat : Int) == 48) && decide ((1 : Int) < s.size)) = false := by
    cases hb : ((c0.toNat : Int) == 48) with
    | false => rfl
    | true =>
      rw [Bool.true_and, decide_eq_false_iff_not]
      intro h1
      refine hz ⟨?_, by omega⟩
      rw [beq_iff_eq] at hb
      apply UInt8.toNat.inj
      show c0.toNat = 48
      omega
  have HS9 := Lib.hid (show s.size ≤ 9 by omega)
  clear hL hc0 hz h0'
  cases hb48 : ((c0.toNat : Int) == 48) with
  | true =>
    have hb1 : decide ((1 : Int) < s.size) = false := by
      rw [hb48, Bool.true_and] at htest
      exact htest
    clear htest
    go_enter Tryd.func87, Tryd.ntmps87
    go_wp2_with fail
    go_loopw [4, 25] (fun v i wr => ∃ k : Nat, k ≤ s.size ∧ i = .int .i64 k ∧ v = .int .i64 (valG (L.take k) 0 : Int) ∧ wr = w ∧ Hid ((L.take k).all digB = true)) (fun _ i _ => s.size - (intOf i).toNat)
    case atStart => exact ⟨0, Nat.zero_le _, rfl, rfl, rfl, rfl⟩
    case round =>
      obtain ⟨k, hk, rfl, rfl, hwr, H⟩ := hrel
      obtain rfl : w = wr := hwr.symm
      by_cases hlt : k < s.size
      · have hlt' : k < L.length := by have := HN.out; omega
        obtain ⟨c, hc⟩ : ∃ c, c = L[k] := ⟨_, rfl⟩
        have hxk : ∀ h, s[k]'h = c := fun h => by rw [hc]; exact HAT.out k h hlt'
        have hv : valG (L.take k) 0 < 1000000000 := val_small H.out (by have := HS9.out; have := HN.out; rw [List.length_take]; omega)
        have HT := Lib.hid (show valG (L.take (k + 1)) 0 = 10 * valG (L.take k) 0 + (c.toNat - 48) by rw [List.take_succ_eq_append_getElem hlt', valG_snoc, hc])
        have HTA := Lib.hid (show digB c = true → (L.take (k + 1)).all digB = true from fun h => by rw [List.take_succ_eq_append_getElem hlt', List.all_append, H.out, ← hc]; simp [h])
        have HNA := Lib.hid (show digB c = false → L.all digB = false from fun h => by
          rw [← Bool.not_eq_true]
          intro ha
          have := List.all_eq_true.1 ha c (by rw [hc]; exact List.getElem_mem hlt')
          rw [h] at this
          cases this)
        obtain ⟨n, hn⟩ : ∃ n, n = valG (L.take k) 0 := ⟨_, rfl⟩
        rw [← hn] at hv HT ⊢
        cases hd : digB c with
        | true =>
          obtain ⟨h1, h2⟩ := digB_iff.1 hd
          have HT2 := Lib.hid (HTA.out hd)
          have n1 : decide ((c.toNat : Int) < 48) = false := decide_eq_false (by omega)
          have n2 : decide ((57 : Int) < (c.toNat : Int)) = false := decide_eq_false (by omega)
          clear hd hc hn HTA HNA hx0
          go_wp2_with fail
          go_roundw
          case rel => exact ⟨k + 1, by omega, by go_num, by rw [HT.out]; go_num, trivial, HT2⟩
          case measure => simp [intOf]; omega
        | false =>
          have HF := Lib.hid (HNA.out hd)
          have hd2 : c.toNat < 48 ∨ 57 < c.toNat := by
            have h1 := hd
            rw [← Bool.not_eq_true, digB_iff] at h1
            omega
          clear hd hc hn HTA HNA hx0
          rcases hd2 with hd2 | hd2
          · go_wp2_with fail
            go_ret2
            rw [HPN.out, HF.out]
            exact ⟨rfl, rfl⟩
          · have n1 : decide ((c.toNat : Int) < 48) = false := decide_eq_false (by omega)
            go_wp2_with fail
            go_ret2
            rw [HPN.out, HF.out]
            exact ⟨rfl, rfl⟩
      · obtain rfl : k = s.size := by omega
        have HLL := Lib.hid (show L.take s.size = L by rw [← HN.out, List.take_length])
        have HAA := Lib.hid (show L.all digB = true by have := H.out; rwa [HLL.out] at this)
        rw [HLL.out]
        go_wp2_with fail
        go_ret2
        rw [HPN.out, HAA.out]
        exact ⟨rfl, rfl⟩
  | false =>
    clear htest
    go_enter Tryd.func87, Tryd.ntmps87
    go_wp2_with fail
    go_loopw [4, 25] (fun v i wr => ∃ k : Nat, k ≤ s.size ∧ i = .int .i64 k ∧ v = .int .i64 (valG (L.take k) 0 : Int) ∧ wr = w ∧ Hid ((L.take k).all digB = true)) (fun _ i _ => s.size - (intOf i).toNat)
    case atStart => exact ⟨0, Nat.zero_le _, rfl, rfl, rfl, rfl⟩
    case round =>
      obtain ⟨k, hk, rfl, rfl, hwr, H⟩ := hrel
      obtain rfl : w = wr := hwr.symm
      by_cases hlt : k < s.size
      · have hlt' : k < L.length := by have := HN.out; omega
        obtain ⟨c, hc⟩ : ∃ c, c = L[k] := ⟨_, rfl⟩
        have hxk : ∀ h, s[k]'h = c := fun h => by rw [hc]; exact HAT.out k h hlt'
        have hv : valG (L.take k) 0 < 1000000000 := val_small H.out (by have := HS9.out; have := HN.out; rw [List.length_take]; omega)
        have HT := Lib.hid (show valG (L.take (k + 1)) 0 = 10 * valG (L.take k) 0 + (c.toNat - 48) by rw [List.take_succ_eq_append_getElem hlt', valG_snoc, hc])
        have HTA := Lib.hid (show digB c = true → (L.take (k + 1)).all digB = true from fun h => by rw [List.take_succ_eq_append_getElem hlt', List.all_append, H.out, ← hc]; simp [h])
        have HNA := Lib.hid (show digB c = false → L.all digB = false from fun h => by
          rw [← Bool.not_eq_true]
          intro ha
          have := List.all_eq_true.1 ha c (by rw [hc]; exact List.getElem_mem hlt')
          rw [h] at this
          cases this)
        obtain ⟨n, hn⟩ : ∃ n, n = valG (L.take k) 0 := ⟨_, rfl⟩
        rw [← hn] at hv HT ⊢
        cases hd : digB c with
        | true =>
          obtain ⟨h1, h2⟩ := digB_iff.1 hd
          have HT2 := Lib.hid (HTA.out hd)
          have n1 : decide ((c.toNat : Int) < 48) = false := decide_eq_false (by omega)
          have n2 : decide ((57 : Int) < (c.toNat : Int)) = false := decide_eq_false (by omega)
          clear hd hc hn HTA HNA hx0
          go_wp2_with fail
          go_roundw
          case rel => exact ⟨k + 1, by omega, by go_num, by rw [HT.out]; go_num, trivial, HT2⟩
          case measure => simp [intOf]; omega
        | false =>
          have HF := Lib.hid (HNA.out hd)
          have hd2 : c.toNat < 48 ∨ 57 < c.toNat := by
            have h1 := hd
            rw [← Bool.not_eq_true, digB_iff] at h1
            omega
          clear hd hc hn HTA HNA hx0
          rcases hd2 with hd2 | hd2
          · go_wp2_with fail
            go_ret2
            rw [HPN.out, HF.out]
            exact ⟨rfl, rfl⟩
          · have n1 : decide ((c.toNat : Int) < 48) = false := decide_eq_false (by omega)
            go_wp2_with fail
            go_ret2
            rw [HPN.out, HF.out]
            exact ⟨rfl, rfl⟩
      · obtain rfl : k = s.size := by omega
        have HLL := Lib.hid (show L.take s.size = L by rw [← HN.out, List.take_length])
        have HAA := Lib.hid (show L.all digB = true by have := H.out; rwa [HLL.out] at this)
        rw [HLL.out]
        go_wp2_with fail
        go_ret2
        rw [HPN.out, HAA.out]
        exact ⟨rfl, rfl⟩
section
variable (g : Nat) (o : Outc) (w : World)
theorem test_any (is : Bool) (h : OcB w g o) : Calls Tryd.prog 85 #[.pointer (some ⟨g, 0, none⟩), .bool is] w (CmdRet g { o with status := if is then o.status else 1 } w) := by
  unfold OcB at h
  have d0 := (h).cell 0
  have d1 := (h).cell 1
  have d2 := (h).cell 2
  have d3 := (h).cell 3
  have d4 := (h).cell 4
  have d5 := (h).cell 5
  have f0 := (h).frozen 0
  have f1 := (h).frozen 1
  have f2 := (h).frozen 2
  have f3 := (h).frozen 3
  have f4 := (h).frozen 4
  have f5 := (h).frozen 5
  simp only [List.getElem?_toArray, List.getElem?_cons_zero, List.getElem?_cons_succ] at d0 d1 d2 d3 d4 d5
  have H := Lib.hid h
  clear h
  cases is with
  | true =>
    go_enter Tryd.func85, Tryd.ntmps85
    go_wp2_with fail
    go_end0
    exact ⟨rfl, H.out, But.refl _ _⟩
  | false =>
    go_enter Tryd.func85, Tryd.ntmps85
    go_wp2_with fail
    go_end0
    exact ⟨rfl, H.out.set 2 _, But.set _ _ _⟩
theorem yes_any (inn args : Value) (h : OcB w g o) : Calls Tryd.prog 71 #[.pointer (some ⟨g, 0, none⟩), inn, args] w (CmdRet g o w) := by
  go_enter Tryd.func71, Tryd.ntmps71
  go_wp2_with fail
  go_end0
  exact ⟨rfl, h, But.refl _ _⟩
theorem no_any (inn args : Value) (h : OcB w g o) : Calls Tryd.prog 66 #[.pointer (some ⟨g, 0, none⟩), inn, args] w (CmdRet g { o with status := 1 } w) := by
  unfold OcB at h
  have d0 := (h).cell 0
  have d1 := (h).cell 1
  have d2 := (h).cell 2
  have d3 := (h).cell 3
  have d4 := (h).cell 4
  have d5 := (h).cell 5
  have f0 := (h).frozen 0
  have f1 := (h).frozen 1
  have f2 := (h).frozen 2
  have f3 := (h).frozen 3
  have f4 := (h).frozen 4
  have f5 := (h).frozen 5
  simp only [List.getElem?_toArray, List.getElem?_cons_zero, List.getElem?_cons_succ] at d0 d1 d2 d3 d4 d5
  have H := Lib.hid h
  clear h
  go_enter Tryd.func66, Tryd.ntmps66
  go_wp2_with fail
  go_end0
  exact ⟨rfl, H.out.set 2 _, But.set _ _ _⟩
theorem cat_any (inn : List UInt8) (args : Value) (h : OcB w g o) : Calls Tryd.prog 62 #[.pointer (some ⟨g, 0, none⟩), .string ⟨inn.toArray⟩, args] w (CmdRet g { o with out := inn, rest := [] } w) := by
  unfold OcB at h
  have d0 := (h).cell 0
  have d1 := (h).cell 1
  have d2 := (h).cell 2
  have d3 := (h).cell 3
  have d4 := (h).cell 4
  have d5 := (h).cell 5
  have f0 := (h).frozen 0
  have f1 := (h).frozen 1
  have f2 := (h).frozen 2
  have f3 := (h).frozen 3
  have f4 := (h).frozen 4
  have f5 := (h).frozen 5
  simp only [List.getElem?_toArray, List.getElem?_cons_zero, List.getElem?_cons_succ] at d0 d1 d2 d3 d4 d5
  have H := Lib.hid h
  clear h
  go_enter Tryd.func62, Tryd.ntmps62
  go_wp2_with fail
  go_end0
  exact ⟨rfl, (H.out.set 0 _).set 1 _, (But.set _ _ _).trans (But.set _ _ _)⟩
theorem put_any (inn : Value) (A : Option Addr) (c : Nat) (L : List (List UInt8)) (h : OcB w g o) (hrd : RdL w 1 strc A L) (hc : L.length ≤ c) (hsum : L.length - 1 + sumL L ≤ 100000) :
    Calls Tryd.prog 69 #[.pointer (some ⟨g, 0, none⟩), inn, .slice A L.length c] w (CmdRet g { o with out := spaced L } w) := by
  have HJ := Lib.hid (sjoin_any A c L w hrd hc hsum)
  unfold OcB at h
  have H := Lib.hid h
  generalize spaced L = u at *
  generalize L.length = m at *
  clear h hrd hc hsum
  go_enter Tryd.func69, Tryd.ntmps69
  go_wp2_with fail
  refine HJ.out.mono ?_
  rintro e w1 ⟨rfl, hb⟩
  have d0 := ((H.out.below hb)).cell 0
  have d1 := ((H.out.below hb)).cell 1
  have d2 := ((H.out.below hb)).cell 2
  have d3 := ((H.out.below hb)).cell 3
  have d4 := ((H.out.below hb)).cell 4
  have d5 := ((H.out.below hb)).cell 5
  have f0 := ((H.out.below hb)).frozen 0
  have f1 := ((H.out.below hb)).frozen 1
  have f2 := ((H.out.below hb)).frozen 2
  have f3 := ((H.out.below hb)).frozen 3
  have f4 := ((H.out.below hb)).frozen 4
  have f5 := ((H.out.below hb)).frozen 5
  simp only [List.getElem?_toArray, List.getElem?_cons_zero, List.getElem?_cons_succ] at d0 d1 d2 d3 d4 d5
  have H1 := Lib.hid (H.out.below hb)
  have HB := Lib.hid (But.of hb (B := g))
  clear hb
  go_wp2_with fail
  go_end0
  exact ⟨rfl, H1.out.set 0 _, HB.out.trans (But.set _ _ _)⟩
theorem echo_any (inn : Value) (A : Option Addr) (c : Nat) (L : List (List UInt8)) (h : OcB w g o) (hrd : RdL w 1 strc A L) (hc : L.length ≤ c) (hsum : L.length - 1 + sumL L ≤ 100000) :
    Calls Tryd.prog 63 #[.pointer (some ⟨g, 0, none⟩), inn, .slice A L.length c] w (CmdRet g { o with out := spaced L ++ [10] } w) := by
  have HP := Lib.hid (put_any g o w inn A c L h hrd hc hsum)
  have hle : (spaced L).length ≤ 100000 := by
    have := spaced_take L L.length
    rw [List.take_length] at this
    omega
  have HA := Lib.hid (show ∀ u : List UInt8, (⟨u.toArray⟩ ++ ⟨#[10]⟩ : ByteArray) = ⟨(u ++ [10]).toArray⟩ from fun u => by apply ByteArray.ext; simp)
  generalize spaced L = u at *
  have HSZ := Lib.hid (show (⟨u.toArray⟩ : ByteArray).size ≤ 100000 by show u.toArray.size ≤ 100000; rw [List.size_toArray]; exact hle)
  generalize L.length = m at *
  clear h hrd hc hsum
  go_enter Tryd.func63, Tryd.ntmps63
  go_wp2_with fail
  refine HP.out.mono ?_
  rintro e w1 ⟨rfl, hO, hb⟩
  unfold OcB at hO
  have d0 := (hO).cell 0
  have d1 := (hO).cell 1
  have d2 := (hO).cell 2
  have d3 := (hO).cell 3
  have d4 := (hO).cell 4
  have d5 := (hO).cell 5
  have f0 := (hO).frozen 0
  have f1 := (hO).frozen 1
  have f2 := (hO).frozen 2
  have f3 := (hO).frozen 3
  have f4 := (hO).frozen 4
  have f5 := (hO).frozen 5
  simp only [List.getElem?_toArray, List.getElem?_cons_zero, List.getElem?_cons_succ] at d0 d1 d2 d3 d4 d5
  have H1 := Lib.hid hO
  have HB := Lib.hid hb
  have hsz := HSZ.out
  clear hO hb
  go_wp2_with fail
  go_end0
  refine ⟨rfl, ?_, HB.out.trans (But.set _ 0 _)⟩
  have := H1.out.set 0 (.string (⟨u.toArray⟩ ++ ⟨#[10]⟩))
  rw [HA.out] at this ⊢
  exact this
end
end Go.Proofs.YtjpfolbghjhodaaDoor
