/- The walks over patoisref.Parse and Number: they say what package text's say. Bounds on the size. -/
import Derived.Test.YtjpfolbghjhodaaDoorBuiltW2
import Derived.Test.YtjpfolbghjhodaaDoorRef2W3
import Derived.Test.YtjpfolbghjhodaaDoorRelT
import Derived.Lib.ItoaNum
set_option linter.unusedVariables false
set_option linter.unusedSimpArgs false
namespace Go.Proofs.YtjpfolbghjhodaaDoor
open Go.RowKit

theorem belowR (w : World) (o : Obj) : Below w.heap.size w (w.alloc o) := (Below.refl _ _).alloc (Nat.le_refl _) _
theorem ba_appR (x y : List UInt8) : (⟨x.toArray⟩ ++ ⟨y.toArray⟩ : ByteArray) = ⟨(x ++ y).toArray⟩ := by
  apply ByteArray.ext
  rw [ByteArray.data_append]
  simp
theorem dec_less {n : Nat} (h : n < 10) : Lib.decDigits n = [UInt8.ofNat (48 + n)] := by rw [Lib.decDigits, dif_pos h]
theorem dec_more {n : Nat} (h : ¬ n < 10) : Lib.decDigits n = Lib.decDigits (n / 10) ++ [UInt8.ofNat (48 + n % 10)] := by
  conv => lhs; rw [Lib.decDigits, dif_neg h]
theorem digit_cell (k : Nat) (h : k < 10) (w : World) : (w.alloc (.cells #[.int .u8 (48 + (k : Int))] 5)).ownsRow w.heap.size 5 1 (.slice (some ⟨w.heap.size, 0, none⟩) 1 1) 1 ([UInt8.ofNat (48 + k)].flatMap byc) := by
  have h1 : (UInt8.ofNat (48 + k)).toNat = 48 + k := by
    rw [UInt8.toNat_ofNat']
    omega
  have h2 : ([UInt8.ofNat (48 + k)].flatMap byc) = [.int .u8 (48 + (k : Int))] := by
    simp only [List.flatMap_cons, List.flatMap_nil, List.append_nil, byc, h1]
    rfl
  rw [h2]
  exact World.ownsRow_lit w #[.int .u8 (48 + (k : Int))] 1 (Nat.le_refl _) (by decide) rfl
def rowB (B : Nat) (d : UInt8) : TT := ⟨fun v => ∃ g, v = .slice (some ⟨g, 0, none⟩) 1 1, ⟨_, 0, rfl⟩, fun v x => x.ownsRow B 5 1 v 1 ([d].flatMap byc), fun _ _ _ h hb => own_below h hb⟩
set_option maxRecDepth 100000 in
theorem refnum_any (n : Nat) (hn : n ≤ 1000000000) : ∀ w, Calls Tryd.prog 43 #[.int .i64 n] w (Ret w (.string ⟨(Lib.decDigits n).toArray⟩)) := by
  induction n using Nat.strongRecOn with
  | ind n ih =>
    intro w
    by_cases h10 : n < 10
    · have HD := Lib.hid (dec_less h10)
      have hcv := conv_any (digit_cell n h10 w) rfl
      have hn0 : ¬ ((n : Int) < 0) := by omega
      rw [HD.out]
      generalize hd : UInt8.ofNat (48 + n) = d at *
      clear hd ih
      go_enter Tryd.func43, Tryd.ntmps43
      go_wp2_with fail
      go_ret
      exact ⟨rfl, belowR w _⟩
    · have HD := Lib.hid (dec_more h10)
      have C1 := Lib.hid (ih (n / 10) (by omega) (by omega))
      have hpl : (Lib.decDigits (n / 10)).length ≤ 10 := dec_len 9 (n / 10) (by omega)
      rw [HD.out]
      have hk10 : n % 10 < 10 := Nat.mod_lt _ (by decide)
      have HC := Lib.hid (fun (W : World) (g : Nat) (h : W.ownsRow w.heap.size 5 1 (.slice (some ⟨g, 0, none⟩) 1 1) 1 ([UInt8.ofNat (48 + n % 10)].flatMap byc)) => conv_any h rfl)
      have HG := Lib.hid (fun W => digit_cell (n % 10) hk10 W)
      have hn1 : (n : Int) / 10 = ((n / 10 : Nat) : Int) := by omega
      have hn2 : (n : Int) % 10 = ((n % 10 : Nat) : Int) := by omega
      generalize Lib.decDigits (n / 10) = p at *
      generalize UInt8.ofNat (48 + n % 10) = d at *
      generalize n % 10 = k at *
      generalize n / 10 = j at *
      clear ih
      go_enter Tryd.func43, Tryd.ntmps43
      go_upto_region 7 with (fail)
      apply wp_region_rel [eqT _, eqT (.int .i64 (j : Int)), eqT (.string ⟨p.toArray⟩), eqT _, eqT (.int .i64 (k : Int)), eqT _, eqT (.int .u8 (48 + (k : Int))), rowB w.heap.size d, eqT (.string ⟨[d].toArray⟩), eqT (.string ⟨(p ++ [d]).toArray⟩), eqT _] (by kernel_rfl) (by kernel_rfl) rfl
      focus
        refine ⟨?_, ?_⟩
        focus
          unfold opGoal
          rw [if_pos (by kernel_rfl)]
          intro x hb hd K hk
          clear hd
          go_wp2_with fail
          exact hk _ _ rfl trivial (Below.refl _ _)
        rintro _ rfl
        simp only [Act.put, List.setIfInBounds_toArray, List.set_cons_succ, List.set_cons_zero]
        refine ⟨?_, ?_⟩
        focus
          unfold opGoal
          rw [if_pos (by kernel_rfl)]
          intro x hb hd K hk
          clear hd
          go_wp2_with fail
          exact hk _ _ (congrArg (Value.int .i64) (by omega)) trivial (Below.refl _ _)
        rintro _ rfl
        simp only [Act.put, List.setIfInBounds_toArray, List.set_cons_succ, List.set_cons_zero]
        refine ⟨?_, ?_⟩
        focus
          unfold opGoal
          rw [if_pos (by kernel_rfl)]
          intro x hb hd K hk
          clear hd
          go_wp2_with fail
          refine (Hid.out C1 x).mono ?_
          rintro e x' ⟨rfl, hb'⟩
          exact hk _ _ rfl trivial hb'
        rintro _ rfl
        simp only [Act.put, List.setIfInBounds_toArray, List.set_cons_succ, List.set_cons_zero]
        refine ⟨?_, ?_⟩
        focus
          unfold opGoal
          rw [if_pos (by kernel_rfl)]
          intro x hb hd K hk
          clear hd
          go_wp2_with fail
          exact hk _ _ rfl trivial (Below.refl _ _)
        rintro _ rfl
        simp only [Act.put, List.setIfInBounds_toArray, List.set_cons_succ, List.set_cons_zero]
        refine ⟨?_, ?_⟩
        focus
          unfold opGoal
          rw [if_pos (by kernel_rfl)]
          intro x hb hd K hk
          clear hd
          go_wp2_with fail
          exact hk _ _ (congrArg (Value.int .i64) (by omega)) trivial (Below.refl _ _)
        rintro _ rfl
        simp only [Act.put, List.setIfInBounds_toArray, List.set_cons_succ, List.set_cons_zero]
        refine ⟨?_, ?_⟩
        focus
          unfold opGoal
          rw [if_pos (by kernel_rfl)]
          intro x hb hd K hk
          clear hd
          go_wp2_with fail
          exact hk _ _ rfl trivial (Below.refl _ _)
        rintro _ rfl
        simp only [Act.put, List.setIfInBounds_toArray, List.set_cons_succ, List.set_cons_zero]
        refine ⟨?_, ?_⟩
        focus
          unfold opGoal
          rw [if_pos (by kernel_rfl)]
          intro x hb hd K hk
          clear hd
          go_wp2_with fail
          exact hk _ _ rfl trivial (Below.refl _ _)
        rintro _ rfl
        simp only [Act.put, List.setIfInBounds_toArray, List.set_cons_succ, List.set_cons_zero]
        refine ⟨?_, ?_⟩
        focus
          unfold opGoal
          rw [if_pos (by kernel_rfl)]
          intro x hb hd K hk
          clear hd
          go_wp2_with fail
          exact hk _ _ ⟨_, rfl⟩ (own_mono (HG.out x) hb.size) ((Below.refl _ _).alloc (Nat.le_refl _) _)
        rintro _ ⟨g25, rfl⟩
        simp only [Act.put, List.setIfInBounds_toArray, List.set_cons_succ, List.set_cons_zero]
        refine ⟨?_, ?_⟩
        focus
          unfold opGoal
          rw [if_pos (by kernel_rfl)]
          intro x hb hd K hk
          have h25 := hd _ (List.mem_cons_self ..) rfl _ _ rfl rfl
          have hcv := HC.out x g25 h25
          clear hd h25
          go_wp2_with fail
          exact hk _ _ rfl trivial (Below.refl _ _)
        rintro _ rfl
        simp only [Act.put, List.setIfInBounds_toArray, List.set_cons_succ, List.set_cons_zero]
        refine ⟨?_, ?_⟩
        focus
          unfold opGoal
          rw [if_pos (by kernel_rfl)]
          intro x hb hd K hk
          clear hd
          go_wp2_with fail
          exact hk _ _ (congrArg Value.string (ba_appR _ _)) trivial (Below.refl _ _)
        rintro _ rfl
        simp only [Act.put, List.setIfInBounds_toArray, List.set_cons_succ, List.set_cons_zero]
        refine ⟨?_, ?_⟩
        focus
          unfold opGoal
          rw [if_pos (by kernel_rfl)]
          intro x hb hd K hk
          clear hd
          go_wp2_with fail
          exact hk _ _ rfl trivial (Below.refl _ _)
        rintro _ rfl
        simp only [Act.put, List.setIfInBounds_toArray, List.set_cons_succ, List.set_cons_zero]
        intro x hbq hf
        clear hf
        go_wp2_with fail
        go_ret
        exact ⟨rfl, hbq⟩
/-- The number, or -1. -/
def parR (l : List UInt8) : Int := if (parseL l).2 then ((parseL l).1 : Int) else -1
set_option maxRecDepth 100000 in
set_option maxHeartbeats 4000000 in
theorem refparse_any (s : ByteArray) (w : World) (hs : s.size ≤ 1000000000) : Calls Tryd.prog 41 #[.string s] w fun e w' => e = .returned (.int .i64 (parR s.data.toList)) ∧ w' = w := by
  obtain ⟨L, hL⟩ : ∃ L, L = s.data.toList := ⟨_, rfl⟩
  have HN := Lib.hid (show L.length = s.size by rw [hL]; rfl)
  have HAT := Lib.hid (show ∀ (k : Nat) (hk : k < s.size) (hk2 : k < L.length), s[k]'hk = L[k]'hk2 from fun k hk hk2 => by subst hL; rfl)
  rw [← hL]
  by_cases h0 : s.size = 0
  · have HP := Lib.hid (show parR L = -1 by
      have : parseL L = (0, false) := by unfold parseL; rw [if_pos]; left; have := HN.out; omega
      unfold parR
      rw [this]
      rfl)
    rw [HP.out]
    clear hL HN HAT HP
    go_enter Tryd.func41, Tryd.ntmps41
    go_wp2_with fail
    go_ret
    exact ⟨rfl, rfl⟩
  have g0 : decide ((s.size : Int) < 1) = false := decide_eq_false (by omega)
  by_cases h9 : 9 < s.size
  · have HP := Lib.hid (show parR L = -1 by
      have : parseL L = (0, false) := by unfold parseL; rw [if_pos]; right; left; have := HN.out; omega
      unfold parR
      rw [this]
      rfl)
    rw [HP.out]
    have g9 : decide ((9 : Int) < (s.size : Int)) = true := decide_eq_true (by omega)
    clear hL HN HAT HP
    go_enter Tryd.func41, Tryd.ntmps41
    go_wp2_with fail
    go_ret
    exact ⟨rfl, rfl⟩
  have g9 : decide ((9 : Int) < (s.size : Int)) = false := decide_eq_false (by omega)
  have h0' : 0 < L.length := by have := HN.out; omega
  obtain ⟨c0, hc0⟩ : ∃ c, c = L[0] := ⟨_, rfl⟩
  have hx0 : ∀ h, s[0]'h = c0 := fun h => by rw [hc0]; exact HAT.out 0 h h0'
  have hpos : 0 < s.size := by omega
  by_cases hz : c0 = 48 ∧ 1 < s.size
  · have HP := Lib.hid (show parR L = -1 by
      have : parseL L = (0, false) := by
        unfold parseL
        rw [if_pos]
        right; right
        refine ⟨?_, by have := HN.out; omega⟩
        rw [List.head?_eq_getElem?, List.getElem?_eq_getElem h0', ← hc0, hz.1]
      unfold parR
      rw [this]
      rfl)
    rw [HP.out]
    obtain ⟨hz1, hz2⟩ := hz
    subst hz1
    clear hL HN HAT HP hc0 h0'
    have g1 : decide ((1 : Int) < (s.size : Int)) = true := decide_eq_true (by omega)
    go_enter Tryd.func41, Tryd.ntmps41
    go_wp2_with fail
    go_ret
    exact ⟨rfl, rfl⟩
  have HPN := Lib.hid (show parR L = if L.all digB = true then (valG L 0 : Int) else -1 by
    have : parseL L = if L.all digB = true then (valG L 0, true) else (0, false) := by
      unfold parseL
      rw [if_neg]
      rintro (h | h | ⟨h, h'⟩)
      · have := HN.out; omega
      · have := HN.out; omega
      · rw [List.head?_eq_getElem?, List.getElem?_eq_getElem h0', ← hc0] at h
        injection h with h
        exact hz ⟨h, by have := HN.out; omega⟩
    unfold parR
    rw [this]
    cases L.all digB <;> rfl)
  have HS9 := Lib.hid (show s.size ≤ 9 by omega)
  by_cases hs1 : 1 < s.size
  · have g1 : decide ((1 : Int) < (s.size : Int)) = true := decide_eq_true (by omega)
    have hz3 : ((c0.toNat : Int) == 48) = false := by
      rw [beq_eq_false_iff_ne]
      intro h
      refine hz ⟨?_, hs1⟩
      apply UInt8.toNat.inj
      show c0.toNat = 48
      omega
    clear hL hc0 hz h0' hs1
    go_enter Tryd.func41, Tryd.ntmps41
    go_wp2_with fail
    go_loopw [3, 4] (fun v i wr => ∃ k : Nat, k ≤ s.size ∧ i = .int .i64 k ∧ v = .int .i64 (valG (L.take k) 0 : Int) ∧ wr = w ∧ Hid ((L.take k).all digB = true)) (fun _ i _ => s.size - (intOf i).toNat)
    case atStart => exact ⟨0, Nat.zero_le _, rfl, rfl, rfl, rfl⟩
    case round =>
      obtain ⟨k, hk, rfl, rfl, hwr, H⟩ := hrel
      obtain rfl : w = wr := hwr.symm
      by_cases hlt : k < s.size
      · have hlt' : k < L.length := by have := HN.out; omega
        obtain ⟨c, hc⟩ : ∃ c, c = L[k] := ⟨_, rfl⟩
        have hxk : ∀ h, s[k]'h = c := fun h => by rw [hc]; exact HAT.out k h hlt'
        have hv : valG (L.take k) 0 < 1000000000 := val_small H.out (by have := HS9.out; have := HN.out; rw [List.length_take]; omega)
        have HT := Lib.hid (show valG (L.take (k + 1)) 0 = 10 * valG (L.take k) 0 + (c.toNat - 48) by rw [List.take_succ_eq_append_getElem hlt', valG_snoc, hc])
        have HTA := Lib.hid (show digB c = true → (L.take (k + 1)).all digB = true from fun h => by rw [List.take_succ_eq_append_getElem hlt', List.all_append, H.out, ← hc]; simp [h])
        have HNA := Lib.hid (show digB c = false → L.all digB = false from fun h => by
          rw [← Bool.not_eq_true]
          intro ha
          have := List.all_eq_true.1 ha c (by rw [hc]; exact List.getElem_mem hlt')
          rw [h] at this
          cases this)
        obtain ⟨n, hn⟩ : ∃ n, n = valG (L.take k) 0 := ⟨_, rfl⟩
        rw [← hn] at hv HT ⊢
        cases hd : digB c with
        | true =>
          obtain ⟨h1, h2⟩ := digB_iff.1 hd
          have HT2 := Lib.hid (HTA.out hd)
          have n1 : decide ((c.toNat : Int) < 48) = false := decide_eq_false (by omega)
          have n2 : decide ((57 : Int) < (c.toNat : Int)) = false := decide_eq_false (by omega)
          clear hd hc hn HTA HNA hx0
          go_wp2_with fail
          go_roundw
          case rel => exact ⟨k + 1, by omega, by go_num, by rw [HT.out]; go_num, trivial, HT2⟩
          case measure => simp [intOf]; omega
        | false =>
          have HF := Lib.hid (HNA.out hd)
          have hd2 : c.toNat < 48 ∨ 57 < c.toNat := by
            have h1 := hd
            rw [← Bool.not_eq_true, digB_iff] at h1
            omega
          clear hd hc hn HTA HNA hx0
          rcases hd2 with hd2 | hd2
          · go_wp2_with fail
            go_ret
            rw [HPN.out, HF.out]
            exact ⟨rfl, rfl⟩
          · have n1 : decide ((c.toNat : Int) < 48) = false := decide_eq_false (by omega)
            go_wp2_with fail
            go_ret
            rw [HPN.out, HF.out]
            exact ⟨rfl, rfl⟩
      · obtain rfl : k = s.size := by omega
        have HLL := Lib.hid (show L.take s.size = L by rw [← HN.out, List.take_length])
        have HAA := Lib.hid (show L.all digB = true by have := H.out; rwa [HLL.out] at this)
        rw [HLL.out]
        go_wp2_with fail
        go_ret
        rw [HPN.out, HAA.out]
        exact ⟨rfl, rfl⟩
  · have g1 : decide ((1 : Int) < (s.size : Int)) = false := decide_eq_false (by omega)
    clear hL hc0 hz h0' hs1
    go_enter Tryd.func41, Tryd.ntmps41
    go_wp2_with fail
    go_loopw [3, 4] (fun v i wr => ∃ k : Nat, k ≤ s.size ∧ i = .int .i64 k ∧ v = .int .i64 (valG (L.take k) 0 : Int) ∧ wr = w ∧ Hid ((L.take k).all digB = true)) (fun _ i _ => s.size - (intOf i).toNat)
    case atStart => exact ⟨0, Nat.zero_le _, rfl, rfl, rfl, rfl⟩
    case round =>
      obtain ⟨k, hk, rfl, rfl, hwr, H⟩ := hrel
      obtain rfl : w = wr := hwr.symm
      by_cases hlt : k < s.size
      · have hlt' : k < L.length := by have := HN.out; omega
        obtain ⟨c, hc⟩ : ∃ c, c = L[k] := ⟨_, rfl⟩
        have hxk : ∀ h, s[k]'h = c := fun h => by rw [hc]; exact HAT.out k h hlt'
        have hv : valG (L.take k) 0 < 1000000000 := val_small H.out (by have := HS9.out; have := HN.out; rw [List.length_take]; omega)
        have HT := Lib.hid (show valG (L.take (k + 1)) 0 = 10 * valG (L.take k) 0 + (c.toNat - 48) by rw [List.take_succ_eq_append_getElem hlt', valG_snoc, hc])
        have HTA := Lib.hid (show digB c = true → (L.take (k + 1)).all digB = true from fun h => by rw [List.take_succ_eq_append_getElem hlt', List.all_append, H.out, ← hc]; simp [h])
        have HNA := Lib.hid (show digB c = false → L.all digB = false from fun h => by
          rw [← Bool.not_eq_true]
          intro ha
          have := List.all_eq_true.1 ha c (by rw [hc]; exact List.getElem_mem hlt')
          rw [h] at this
          cases this)
        obtain ⟨n, hn⟩ : ∃ n, n = valG (L.take k) 0 := ⟨_, rfl⟩
        rw [← hn] at hv HT ⊢
        cases hd : digB c with
        | true =>
          obtain ⟨h1, h2⟩ := digB_iff.1 hd
          have HT2 := Lib.hid (HTA.out hd)
          have n1 : decide ((c.toNat : Int) < 48) = false := decide_eq_false (by omega)
          have n2 : decide ((57 : Int) < (c.toNat : Int)) = false := decide_eq_false (by omega)
          clear hd hc hn HTA HNA hx0
          go_wp2_with fail
          go_roundw
          case rel => exact ⟨k + 1, by omega, by go_num, by rw [HT.out]; go_num, trivial, HT2⟩
          case measure => simp [intOf]; omega
        | false =>
          have HF := Lib.hid (HNA.out hd)
          have hd2 : c.toNat < 48 ∨ 57 < c.toNat := by
            have h1 := hd
            rw [← Bool.not_eq_true, digB_iff] at h1
            omega
          clear hd hc hn HTA HNA hx0
          rcases hd2 with hd2 | hd2
          · go_wp2_with fail
            go_ret
            rw [HPN.out, HF.out]
            exact ⟨rfl, rfl⟩
          · have n1 : decide ((c.toNat : Int) < 48) = false := decide_eq_false (by omega)
            go_wp2_with fail
            go_ret
            rw [HPN.out, HF.out]
            exact ⟨rfl, rfl⟩
      · obtain rfl : k = s.size := by omega
        have HLL := Lib.hid (show L.take s.size = L by rw [← HN.out, List.take_length])
        have HAA := Lib.hid (show L.all digB = true by have := H.out; rwa [HLL.out] at this)
        rw [HLL.out]
        go_wp2_with fail
        go_ret
        rw [HPN.out, HAA.out]
        exact ⟨rfl, rfl⟩
end Go.Proofs.YtjpfolbghjhodaaDoor
