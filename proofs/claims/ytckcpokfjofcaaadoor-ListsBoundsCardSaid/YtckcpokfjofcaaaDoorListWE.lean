/- The walk over lists.Flat. Bounds on the lengths. -/
import Derived.Test.YtckcpokfjofcaaaDoorListWD
import Derived.Test.YtckcpokfjofcaaaDoorListW3
set_option linter.unusedVariables false
set_option linter.unusedSimpArgs false
namespace Go.Proofs.YtckcpokfjofcaaaDoor
open Go.RowKit

theorem sumL_mem' {s : List UInt8} : ∀ {l : List (List UInt8)}, s ∈ l → s.length ≤ sumL l
  | x :: t, h => by
    simp only [sumL]
    rcases List.mem_cons.1 h with rfl | h
    · omega
    · have := sumL_mem' h; omega
theorem bound_spaced {L : List (List UInt8)} (h : ¬ 2000 < L.length - 1 + sumL L) : boundL [spaced L] = some [spaced L] := by
  refine bound_of (bigL_false.2 ⟨by show 1 ≤ 100; decide, fun s hs => ?_⟩)
  rw [List.mem_singleton] at hs
  subst hs
  rw [spaced_len]
  omega
set_option maxHeartbeats 2000000 in
set_option maxRecDepth 100000 in
theorem flat_any (v : Value) (L : List (List UInt8)) (a : Addr) (w : World) (hv : SlS w v L) (hL : L.length ≤ 1000000) (hs : ∀ s ∈ L, s.length ≤ 140737488355328) (hE : BigW w a) : Calls Tryd.prog 16 #[v] w (ListRet (flatTx L) a w) := by
  obtain ⟨A0, c0, rfl, hrd, _, hc, _⟩ := hv
  have HR := Lib.hid (show flatTx L = if 2000 < L.length - 1 + sumL L then none else some [spaced L] from rfl)
  have CJ := Lib.hid (fun W (hb : Below w.heap.size w W) (h : ¬ 2000 < L.length - 1 + sumL L) => sjoin_any A0 c0 L W (hrd.below hb) hc (by omega))
  have CB := Lib.hid (fun W (hb : Below w.heap.size w W) (h : ¬ 2000 < L.length - 1 + sumL L) => bound_any (.slice (some ⟨W.heap.size, 0, none⟩) 1 1) [spaced L] a (W.alloc (.cells #[.string ⟨(spaced L).toArray⟩] 9)) (SlS.one W (spaced L)) (by show 1 ≤ 1000000; decide) (hE.below (hb.alloc hb.size _)))
  have HB := Lib.hid (fun h => bound_spaced (L := L) h)
  have HS := Lib.hid hs
  have HTK := Lib.hid (fun k => sumL_take L k)
  have HE := Lib.hid hE
  unfold BigW bigV at hE
  generalize flatTx L = R at *
  obtain ⟨m, hm⟩ : ∃ m, m = L.length := ⟨_, rfl⟩
  have HM := Lib.hid hm
  rw [← hm] at hL HR CJ HB CB ⊢
  clear hm hs hc
  have hmax : max (0 : Int) ((m : Int) - 1) = ((m - 1 : Nat) : Int) := by omega
  go_enter Tryd.func16, Tryd.ntmps16
  go_upto_region 3 with (fail)
  go_loopw [4, 13] (fun v i wr => ∃ k : Nat, k ≤ m ∧ i = .int .i64 k ∧ v = .int .i64 ((m - 1 + sumL (L.take k) : Nat) : Int) ∧ (k = 0 ∨ m - 1 + sumL (L.take k) ≤ 2000) ∧ wr = w)
    (fun _ i _ => m - (intOf i).toNat)
  case atStart => exact ⟨0, Nat.zero_le _, rfl, by simp [sumL], .inl rfl, rfl⟩
  case round =>
    obtain ⟨k, hk, rfl, rfl, hb2, hwr⟩ := hrel
    obtain rfl : w = wr := hwr.symm
    by_cases hlt : k < m
    · have hkL : k < L.length := by rw [← HM.out]; exact hlt
      obtain ⟨b, o, rfl⟩ := hrd.ats hkL
      have cx := hrd.strs hkL
      have HT := Lib.hid (show m - 1 + sumL (L.take (k + 1)) = m - 1 + sumL (L.take k) + L[k].length by rw [List.take_succ_eq_append_getElem hkL, sumL_snoc]; omega)
      have hx := HS.out _ (List.getElem_mem hkL)
      have HT2 := HTK.out (k + 1)
      have hk0 : k = 0 → sumL (L.take k) = 0 := fun h => by rw [h]; rfl
      have ha2 : m - 1 + sumL (L.take k) ≤ 1002000 := by
        rcases hb2 with h | h
        · rw [hk0 h]; omega
        · omega
      generalize L[k] = x at *
      have HT3 := Lib.hid HT2
      obtain ⟨a1, ha⟩ : ∃ a1, a1 = m - 1 + sumL (L.take k) := ⟨_, rfl⟩
      rw [← ha] at HT ha2 ⊢
      clear ha hkL hb2 hk0 HT2
      by_cases hbig : 2000 < a1 + x.length
      · have HN := Lib.hid (show R = none by rw [HR.out, if_pos]; have := HT.out; have := HT3.out; omega)
        have l0 := Later.cell hE
        go_upto_region 7 with (fail)
        refine wp_region_eq (by kernel_rfl) (by kernel_rfl) ?_
        apply EqGo.run
        focus
          kernel_rfl
        focus
          intro x K hK
          go_wp2_with fail
          first | exact hK x (Below.refl _ _) | exact Below.refl _ _
        simp only [Act.put, List.setIfInBounds_toArray, List.set_cons_succ, List.set_cons_zero]
        apply EqGo.run
        focus
          kernel_rfl
        focus
          intro x K hK
          go_wp2_with fail
          first | exact hK x (Below.refl _ _) | exact Below.refl _ _
        simp only [Act.put, List.setIfInBounds_toArray, List.set_cons_succ, List.set_cons_zero]
        apply EqGo.run
        focus
          kernel_rfl
        focus
          intro x K hK
          go_wp2_with fail
          first | exact hK x (Below.refl _ _) | exact Below.refl _ _
        simp only [Act.put, List.setIfInBounds_toArray, List.set_cons_succ, List.set_cons_zero]
        intro xq
        have hby := xq.below
        go_wp2_with fail
        go_ret2
        obtain rfl := HN.out
        exact ⟨rfl, hby⟩
      · go_wp2_with fail
        go_roundw
        case rel => exact ⟨k + 1, by omega, by go_num, by rw [HT.out]; go_num, .inr (by rw [HT.out]; omega), trivial⟩
        case measure => simp [intOf]; omega
    · obtain rfl : m = k := by omega
      have htk : L.take m = L := by rw [HM.out, List.take_length]
      rw [htk] at hb2 ⊢
      have hno : ¬ 2000 < m - 1 + sumL L := by
        rcases hb2 with h | h
        · have h0 : L = [] := List.eq_nil_of_length_eq_zero (by rw [← HM.out]; exact h)
          rw [h0, h]
          decide
        · omega
      have HY := Lib.hid (show R = boundL [spaced L] by rw [HR.out, if_neg hno, HB.out hno])
      have CJ1 := Lib.hid (CJ.out w (Below.refl _ _) hno)
      have CB1 := Lib.hid (fun W hb => CB.out W hb hno)
      clear CJ CB HB hb2 hlt htk HR hno
      rw [← HY.out] at CB1
      generalize spaced L = r at *
      generalize m - 1 + sumL L = sm at *
      go_wp2_with fail
      refine CJ1.out.mono ?_
      rintro e w1 ⟨rfl, hb1⟩
      have hb1a := hb1.alloc hb1.size (.cells #[.string ⟨r.toArray⟩] 9)
      go_wp2_with fail
      refine (CB1.out w1 hb1).mono ?_
      cases R with
      | none =>
        unfold ListRet bigV
        rintro e w3 ⟨rfl, hb3⟩
        go_wp2_with fail
        go_ret2
        exact ⟨rfl, hb1a.trans (hb3.mono hb1a.size)⟩
      | some r =>
        unfold ListRet
        rintro e w3 ⟨v3, rfl, ho3, hb3⟩
        go_wp2_with fail
        go_ret2
        exact ⟨v3, rfl, ho3.mono hb1a.size, hb1a.trans (hb3.mono hb1a.size)⟩
end Go.Proofs.YtckcpokfjofcaaaDoor
