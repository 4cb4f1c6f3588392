/- InlineStays: whatever numbers, the law answers true. No condition but what the package-level errors hold. -/
import Derived.Test.YtclifaehbdeldaaDoorInlF
import Derived.Laws.BitsLemmas
import Derived.Deep.DeepCutAuto
import Derived.Outline
set_option linter.unusedVariables false
set_option linter.unusedSimpArgs false
namespace Go.Proofs.YtclifaehbdeldaaDoor
open Go.RowKit

theorem i64_and31 (n : Int) : bits .and .i64 n 31 = n % 32 := by
  have hm : (BitVec.ofInt 64 31).toNat = 2 ^ 5 - 1 := by decide
  have key : (BitVec.ofInt 64 n &&& BitVec.ofInt 64 31).toNat = (n % ((2 ^ 64 : Nat) : Int)).toNat % 2 ^ 5 := by
    rw [BitVec.toNat_and, BitVec.toNat_ofInt, hm, Nat.and_two_pow_sub_one_eq_mod]
  show IntKind.i64.wrap ((BitVec.ofInt 64 n &&& BitVec.ofInt 64 31).toNat : Nat) = n % 32
  rw [key, IntKind.wrap_i64]
  omega
theorem tmod3' (n : Int) : -2 ≤ n.tmod 3 ∧ n.tmod 3 ≤ 2 := by
  have h1 := Int.tmod_lt_of_pos n (b := 3) (by decide)
  have h2 := Int.tmod_lt_of_pos (-n) (b := 3) (by decide)
  rw [Int.neg_tmod] at h2
  omega
theorem sm_ok {m n : Nat} (hn : n ≤ 100) : ∀ x ∈ flat (progS m n), NdOk x := fun x hx => by
  obtain ⟨h1, h2⟩ := sm_prog m n hn x hx
  exact ⟨by omega, by omega⟩
/-- What is at the end: the passed program is as it was. -/
theorem stay_pass (m n : Nat) (hn : n ≤ 31) (h : m ≤ 1 ∨ 24 < (flat (bodyS n)).length) (v : Value) (aN aT aM : Addr) (w : World) (hv : SlRd w v (flat (progS m n))) (hE : ErrW w aN aT aM) :
    Calls Tryd.prog 33 #[v] w (VRet (flat (progS m n)) w) := by
  have h1 := ipass_tree v (progS m n) aN aT aM w (prog_ok m n) (by have := prog_len m n; omega) (sm_ok (by omega)) hv hE
  rw [prog_stays m n h] at h1
  exact h1
theorem stay_same (m n : Nat) (hn : n ≤ 31) (va vb : Value) (w : World) (ha : SlRd w va (flat (progS m n))) (hb : SlRd w vb (flat (progS m n))) : Calls Tryd.prog 41 #[va, vb] w (Ret w (.bool true)) := by
  have h1 := same_v va vb _ _ w ha hb (by have := prog_len m n; omega) (by have := prog_len m n; omega)
  rw [(sameL_iff _ _).2 rfl] at h1
  exact h1

set_option maxRecDepth 100000 in
set_option maxHeartbeats 8000000 in
theorem inlstays_walk (what n0 : Int) (aN aT' aM : Addr) (w : World) (hw : (Lit.int .i64 what).wf = true) (hw1 : (Lit.int .i64 n0).wf = true) (hE : ErrW w aN aT' aM) :
    Calls Tryd.prog 10 #[.int .i64 what, .int .i64 n0] w fun e w' => e = .returned (.bool true) ∧ Below w.heap.size w w' := by
  obtain ⟨i0, hi, hz0, hz1, hz2⟩ := info_parts infoNodes
  have FA := Lib.hid (first19_any aN aT' aM w hE)
  have HE := Lib.hid hE
  clear hE
  go_enter Tryd.func10, Tryd.ntmps10
  go_wp2_with fail
  refine FA.out.mono ?_
  rintro e w1 ⟨rfl, hb⟩
  go_upto_region 3 with (fail)
  rw [i64_and31]
  obtain ⟨N, hN1, hNe⟩ : ∃ N : Nat, N ≤ 31 ∧ n0 % 32 = N := ⟨(n0 % 32).toNat, by omega, by omega⟩
  rw [hNe]
  clear hNe
  go_wp2_with fail
  go_loopw [6, 7] (fun v i wr => ∃ (k : Nat) (A' : Option Addr) (c' : Nat) (us : List Value), k ≤ N ∧ i = .int .i64 (k : Int) ∧ v = .slice A' k c' ∧
      wr.ownsRow w1.heap.size 22 1 (.slice A' k c') k us ∧ OwnAll wr w1.heap.size us ((List.replicate k (cW echoS)).map flat) ∧ Below w1.heap.size w1 wr) (fun _ i _ => N - (intOf i).toNat)
  case atStart => exact ⟨0, none, 0, [], by omega, rfl, rfl, World.ownsRow_nil _ _ _ _, OwnAll.nil _ _, Below.refl _ _⟩
  case round =>
    obtain ⟨k, A', c', us, hk, rfl, rfl, hown, hall, hbr⟩ := hrel
    by_cases hlt : k < N
    · go_wp2_with fail
      refine (litT_any [101, 99, 104, 111] _).mono ?_
      rintro e w2 ⟨A2, n2, c2, rfl, o2, hb2⟩
      have s2 := o2.rd
      have hown2 := own_below hown hb2
      have hall2 := hall.below hb2
      have hbr2 := hbr.trans (hb2.mono hbr.size)
      clear o2 hown hall hbr hb2
      go_wp2_with fail
      refine (newL_any 21 0 [] _ 1 1 [.mk 1 0 [101, 99, 104, 111] []] _ (AllRd.one s2) rfl (of_decide_eq_true (by kernel_rfl))).mono ?_
      rintro e w3 ⟨A3, n3, c3, rfl, o3, hb3⟩
      have hown3 := own_below hown2 hb3
      have hall3 := hall2.below hb3
      have hbr3 := hbr2.trans (hb3.mono hbr2.size)
      have H2 := Lib.hid (show OwnAll w3 w1.heap.size [.slice A3 n3 c3] [flat (cW echoS)] from by
        obtain ⟨A', c', he, h⟩ := o3
        rw [he]
        exact OwnAll.one (own_mono h hbr2.size))
      clear o3 s2 hown2 hall2 hbr2 hb3
      go_wp2_with (at_builtin; refine wpList_push rfl _ _ _ rfl Tryd.underlying41 hi hz0 hz1 hz2 rfl (by decide) hown3 rfl rfl rfl (by simp [Value.oneCell']) (by omega) (by decide) hbr3.size ?_; intro A4 c4 w4 hown4 hb4 hoo4)
      go_roundw
      case rel =>
        refine ⟨k + 1, A4, c4, us ++ [.slice A3 n3 c3], by omega, by go_num, rfl, by simpa using hown4, ?_, hbr3.trans hb4⟩
        rw [List.replicate_succ', List.map_append]
        exact (hall3.others hoo4 (by decide)).append (H2.out.others hoo4 (by decide))
      case measure => simp [intOf]; omega
    · obtain rfl : N = k := by omega
      have hkd := KdRd.of_own hown (by simp) hall
      have SC := Lib.hid (seq_any A' c' N (List.replicate N (cW echoS)) wr hkd (by simp) (by rw [cWs_len]; omega))
      have hbw := hb.trans (hbr.mono hb.size)
      clear hown hall hkd hbr
      go_wp2_with fail
      refine SC.out.mono ?_
      rintro e w2 ⟨A2, n2, c2, rfl, o2, hb2⟩
      have s2 : SlRd w2 (.slice A2 n2 c2) (flat (bodyS N)) := o2.rd
      replace hbw := hbw.trans (hb2.mono hbw.size)
      clear o2 SC hb2
      go_wp2_with fail
      refine (litT_any [102] _).mono ?_
      rintro e w3 ⟨A3, n3, c3, rfl, o3, hb3⟩
      have s3 := o3.rd
      clear o3
      replace s2 := s2.below hb3
      replace hbw := hbw.trans (hb3.mono hbw.size)
      clear hb3
      go_wp2_with fail
      refine (newL_any 21 0 [] _ 1 1 [.mk 1 0 [102] []] _ (AllRd.one s3) rfl (of_decide_eq_true (by kernel_rfl))).mono ?_
      rintro e w4 ⟨A4, n4, c4, rfl, o4, hb4⟩
      have s4 := o4.rd
      clear o4
      replace s2 := s2.below hb4
      replace hbw := hbw.trans (hb4.mono hbw.size)
      clear hb4 s3
      replace s4 : SlRd w4 (.slice A4 n4 c4) (flat (cW [102])) := s4
      have hz := tmod3' what
      obtain ⟨z, ez⟩ : ∃ z, what.tmod 3 = z := ⟨_, rfl⟩
      rw [ez] at hz
      go_upto_region 14 with (fail)
      obtain ⟨q, hq⟩ : ∃ q : Int, (z + 3) % 3 = q := ⟨_, rfl⟩
      rw [hq]
      have hq3 : q = 0 ∨ q = 1 ∨ q = 2 := by omega
      have hn2 : n2 = (flat (bodyS N)).length := by
        obtain ⟨A', c', he, _⟩ := s2
        injection he
      have HN2 := Lib.hid hn2
      clear hq ez hz hn2
      rcases hq3 with rfl | rfl | rfl
      · go_wp2_with fail
        refine (newL_any 31 0 [102] _ 1 1 [cW [102]] _ (AllRd.one s4) rfl (of_decide_eq_true (by kernel_rfl))).mono ?_
        rintro e w5 ⟨A5, n5, c5, rfl, o5, hb5⟩
        have s5 := o5.rd
        clear o5
        replace s2 := s2.below hb5
        replace s4 := s4.below hb5
        replace hbw := hbw.trans (hb5.mono hbw.size)
        clear hb5
        replace s5 : SlRd w5 (.slice A5 n5 c5) (flat (moreS 0)) := s5
        have HST := Lib.hid (show (0 : Nat) ≤ 1 ∨ 24 < (flat (bodyS N)).length from .inl (by decide))
        go_wp2_with fail
        refine (newL_any 31 0 [102] _ 1 1 [bodyS N] _ (AllRd.one s2) rfl (by rw [flatAll_cons, flatAll_nil, List.append_nil]; have := body_len N; omega)).mono ?_
        rintro e w6 ⟨A6, n6, c6, rfl, o6, hb6⟩
        have s6 : SlRd w6 (.slice A6 n6 c6) (flat (funS N)) := o6.rd
        clear o6
        replace s4 := s4.below hb6
        replace s5 := s5.below hb6
        replace hbw := hbw.trans (hb6.mono hbw.size)
        clear hb6 s2
        go_wp2_with fail
        refine (newL_any 23 0 [] _ 3 3 [funS N, cW [102], moreS 0] _ (AllRd.three s6 s4 s5) rfl (by have h1 := prog_len 0 N; have h2 := flat_size 23 0 [] [funS N, cW [102], moreS 0]; unfold progS at h1; omega)).mono ?_
        rintro e w7 ⟨A7, n7, c7, rfl, o7, hb7⟩
        have s7 : SlRd w7 (.slice A7 n7 c7) (flat (progS 0 N)) := o7.rd
        clear o7
        replace hbw := hbw.trans (hb7.mono hbw.size)
        clear hb7 s4 s5 s6
        go_wp2_with fail
        refine (stay_pass 0 N hN1 HST.out _ aN aT' aM _ s7 (HE.out.below hbw)).mono ?_
        rintro e w8 ⟨A8, n8, c8, rfl, o8, hb8⟩
        have s8 := o8.rd
        clear o8
        replace s7 := s7.below hb8
        replace hbw := hbw.trans (hb8.mono hbw.size)
        clear hb8
        go_wp2_with fail
        refine (stay_same 0 N hN1 _ _ _ s8 s7).mono ?_
        rintro e w9 ⟨rfl, hb9⟩
        replace hbw := hbw.trans (hb9.mono hbw.size)
        go_wp2_with fail
        go_ret
        exact ⟨rfl, hbw⟩
      · go_wp2_with fail
        refine (litT_any [102] _).mono ?_
        rintro e w11 ⟨A11, n11, c11, rfl, o11, hb11⟩
        have s11 := o11.rd
        clear o11
        replace s2 := s2.below hb11
        replace s4 := s4.below hb11
        replace hbw := hbw.trans (hb11.mono hbw.size)
        clear hb11
        go_wp2_with fail
        refine (newL_any 36 0 [] _ 1 1 [.mk 1 0 [102] []] _ (AllRd.one s11) rfl (of_decide_eq_true (by kernel_rfl))).mono ?_
        rintro e w5 ⟨A5, n5, c5, rfl, o5, hb5⟩
        have s5 := o5.rd
        clear o5
        replace s2 := s2.below hb5
        replace s4 := s4.below hb5
        replace hbw := hbw.trans (hb5.mono hbw.size)
        clear hb5 s11
        replace s5 : SlRd w5 (.slice A5 n5 c5) (flat (moreS 1)) := s5
        have HST := Lib.hid (show (1 : Nat) ≤ 1 ∨ 24 < (flat (bodyS N)).length from .inl (by decide))
        go_wp2_with fail
        refine (newL_any 31 0 [102] _ 1 1 [bodyS N] _ (AllRd.one s2) rfl (by rw [flatAll_cons, flatAll_nil, List.append_nil]; have := body_len N; omega)).mono ?_
        rintro e w6 ⟨A6, n6, c6, rfl, o6, hb6⟩
        have s6 : SlRd w6 (.slice A6 n6 c6) (flat (funS N)) := o6.rd
        clear o6
        replace s4 := s4.below hb6
        replace s5 := s5.below hb6
        replace hbw := hbw.trans (hb6.mono hbw.size)
        clear hb6 s2
        go_wp2_with fail
        refine (newL_any 23 0 [] _ 3 3 [funS N, cW [102], moreS 1] _ (AllRd.three s6 s4 s5) rfl (by have h1 := prog_len 1 N; have h2 := flat_size 23 0 [] [funS N, cW [102], moreS 1]; unfold progS at h1; omega)).mono ?_
        rintro e w7 ⟨A7, n7, c7, rfl, o7, hb7⟩
        have s7 : SlRd w7 (.slice A7 n7 c7) (flat (progS 1 N)) := o7.rd
        clear o7
        replace hbw := hbw.trans (hb7.mono hbw.size)
        clear hb7 s4 s5 s6
        go_wp2_with fail
        refine (stay_pass 1 N hN1 HST.out _ aN aT' aM _ s7 (HE.out.below hbw)).mono ?_
        rintro e w8 ⟨A8, n8, c8, rfl, o8, hb8⟩
        have s8 := o8.rd
        clear o8
        replace s7 := s7.below hb8
        replace hbw := hbw.trans (hb8.mono hbw.size)
        clear hb8
        go_wp2_with fail
        refine (stay_same 1 N hN1 _ _ _ s8 s7).mono ?_
        rintro e w9 ⟨rfl, hb9⟩
        replace hbw := hbw.trans (hb9.mono hbw.size)
        go_wp2_with fail
        go_ret
        exact ⟨rfl, hbw⟩
      · go_wp2_with fail
        refine (most_any _).mono ?_
        rintro e w5 ⟨rfl, rfl⟩
        by_cases h24 : n2 ≤ 24
        · go_wp2_with fail
          go_ret
          exact ⟨rfl, hbw⟩
        · have s5 := show SlRd _ (.slice A4 n4 c4) (flat (moreS 2)) from s4
          have HST := Lib.hid (show (2 : Nat) ≤ 1 ∨ 24 < (flat (bodyS N)).length from .inr (by rw [← HN2.out]; omega))
          have h24' : decide ((n2 : Int) ≤ 24) = false := decide_eq_false (by omega)
          go_wp2_with fail
          refine (newL_any 31 0 [102] _ 1 1 [bodyS N] _ (AllRd.one s2) rfl (by rw [flatAll_cons, flatAll_nil, List.append_nil]; have := body_len N; omega)).mono ?_
          rintro e w6 ⟨A6, n6, c6, rfl, o6, hb6⟩
          have s6 : SlRd w6 (.slice A6 n6 c6) (flat (funS N)) := o6.rd
          clear o6
          replace s4 := s4.below hb6
          replace s5 := s5.below hb6
          replace hbw := hbw.trans (hb6.mono hbw.size)
          clear hb6 s2
          go_wp2_with fail
          refine (newL_any 23 0 [] _ 3 3 [funS N, cW [102], moreS 2] _ (AllRd.three s6 s4 s5) rfl (by have h1 := prog_len 2 N; have h2 := flat_size 23 0 [] [funS N, cW [102], moreS 2]; unfold progS at h1; omega)).mono ?_
          rintro e w7 ⟨A7, n7, c7, rfl, o7, hb7⟩
          have s7 : SlRd w7 (.slice A7 n7 c7) (flat (progS 2 N)) := o7.rd
          clear o7
          replace hbw := hbw.trans (hb7.mono hbw.size)
          clear hb7 s4 s5 s6
          go_wp2_with fail
          refine (stay_pass 2 N hN1 HST.out _ aN aT' aM _ s7 (HE.out.below hbw)).mono ?_
          rintro e w8 ⟨A8, n8, c8, rfl, o8, hb8⟩
          have s8 := o8.rd
          clear o8
          replace s7 := s7.below hb8
          replace hbw := hbw.trans (hb8.mono hbw.size)
          clear hb8
          go_wp2_with fail
          refine (stay_same 2 N hN1 _ _ _ s8 s7).mono ?_
          rintro e w9 ⟨rfl, hb9⟩
          replace hbw := hbw.trans (hb9.mono hbw.size)
          go_wp2_with fail
          go_ret
          exact ⟨rfl, hbw⟩
end Go.Proofs.YtclifaehbdeldaaDoor
