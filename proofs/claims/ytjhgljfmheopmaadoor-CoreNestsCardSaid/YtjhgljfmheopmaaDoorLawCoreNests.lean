/- CoreNests: whatever numbers, the law answers true. No condition but what the package-level errors hold. -/
import Derived.Test.YtjhgljfmheopmaaDoorLawCoreMany
import Derived.Test.YtjhgljfmheopmaaDoorDepthW
import Derived.Deep.CutBlock
import Derived.Deep.CutRange
set_option linter.unusedVariables false
set_option linter.unusedSimpArgs false
namespace Go.Proofs.YtjhgljfmheopmaaDoor
open Go.RowKit

theorem i64_and63 (n : Int) : bits .and .i64 n 63 = n % 64 := by
  have hm : (BitVec.ofInt 64 63).toNat = 2 ^ 6 - 1 := by decide
  have key : (BitVec.ofInt 64 n &&& BitVec.ofInt 64 63).toNat = (n % ((2 ^ 64 : Nat) : Int)).toNat % 2 ^ 6 := by
    rw [BitVec.toNat_and, BitVec.toNat_ofInt, hm, Nat.and_two_pow_sub_one_eq_mod]
  show IntKind.i64.wrap ((BitVec.ofInt 64 n &&& BitVec.ofInt 64 63).toNat : Nat) = n % 64
  rw [key, IntKind.wrap_i64]
  omega
theorem tmod3 (n : Int) : -2 ≤ n.tmod 3 ∧ n.tmod 3 ≤ 2 := by
  rcases Int.le_total 0 n with h | h
  · rw [Int.tmod_eq_emod_of_nonneg h]; omega
  · have h2 := Int.neg_tmod (-n) 3
    rw [Int.neg_neg, Int.tmod_eq_emod_of_nonneg (by omega : 0 ≤ -n)] at h2
    omega
theorem nest_nd (c : Nat) : ∀ n, ∀ x ∈ flat (nestT c n), NdOk x
  | 0, x, h => by
    rw [nestT, nopT, flat_mk, flatAll_nil, List.mem_singleton] at h
    subst h
    exact ⟨by simp, by simp⟩
  | n + 1, x, h => by
    have ih := nest_nd c n x
    rw [nestT] at h
    split at h
    · simp only [flat_mk, flatAll_cons, flatAll_nil, List.append_nil, List.mem_cons] at h
      rcases h with rfl | h
      · exact ⟨by simp, by simp⟩
      · exact ih h
    · split at h
      · simp only [flat_mk, nopT, flatAll_cons, flatAll_nil, List.append_nil, List.mem_cons, List.mem_append, List.not_mem_nil, or_false] at h
        rcases h with rfl | rfl | h
        · exact ⟨by simp, by simp⟩
        · exact ⟨by simp, by simp⟩
        · exact ih h
      · simp only [flat_mk, flatAll_cons, flatAll_nil, List.append_nil, List.mem_cons] at h
        rcases h with rfl | h
        · exact ⟨by simp, by simp⟩
        · exact ih h
theorem nest0 (n : Nat) : nestT 0 (n + 1) = .mk 27 0 [] [nestT 0 n] := rfl
theorem nest1 (n : Nat) : nestT 1 (n + 1) = .mk 25 0 [] [nopT, nestT 1 n] := rfl
theorem nest2 (n : Nat) : nestT 2 (n + 1) = .mk 31 0 [102] [nestT 2 n] := rfl
theorem one_le {t : Tr} {n : Nat} (h : (flat t).length ≤ n) (hn : n ≤ 4000000) : (flatAll [t]).length ≤ 4000000 := by
  rw [flatAll_cons, flatAll_nil, List.append_nil]; omega

set_option maxRecDepth 100000 in
set_option maxHeartbeats 4000000 in
theorem corenests_walk (n0 kind0 : Int) (L : List Addr) (w : World) (hS : SenW w L) :
    Calls Tryd.prog 5 #[.int .i64 n0, .int .i64 kind0] w fun e w' => e = .returned (.bool true) ∧ Below w.heap.size w w' := by
  have FA := Lib.hid (first5_any L w hS)
  have HS := Lib.hid hS
  clear hS
  have hz := tmod3 kind0
  go_enter Tryd.func5, Tryd.ntmps5
  go_wp2_with fail
  refine FA.out.mono ?_
  rintro e w1 ⟨rfl, hb⟩
  clear FA
  go_upto_region 3 with (fail)
  obtain ⟨N, hN, hNe⟩ : ∃ N : Nat, N ≤ 63 ∧ bits BinOp.and IntKind.i64 n0 63 = N := ⟨(n0 % 64).toNat, by omega, by rw [i64_and63]; omega⟩
  rw [hNe]
  clear hNe
  go_wp2_with fail
  refine (newT_any 20 0 [] none 0 0 [] _ (KdRd.nil _ _) rfl (of_decide_eq_true (by kernel_rfl))).mono ?_
  rintro e w2 ⟨A2, n2, c2, rfl, o2, hb2⟩
  have s2 : SlRd w2 (.slice A2 n2 c2) (flat nopT) := o2.rd
  replace hb := hb.trans (hb2.mono hb.size)
  clear o2 hb2
  obtain ⟨z, hzz⟩ : ∃ z, kind0.tmod 3 = z := ⟨_, rfl⟩
  rw [hzz] at hz
  obtain ⟨cc, hcc, hz1⟩ : ∃ cc : Nat, cc < 3 ∧ z % 3 = cc := ⟨(z % 3).toNat, by omega, by omega⟩
  have s0 : SlRd w2 (.slice A2 n2 c2) (flat (nestT cc 0)) := s2
  clear s2
  go_wp2_with fail
  go_loopw [6, 7] (fun v i wr => ∃ (k : Nat) (A : Option Addr) (n c : Nat), k ≤ N ∧ i = .int .i64 k ∧ v = .slice A n c ∧ SlRd wr (.slice A n c) (flat (nestT cc k)) ∧ Below w2.heap.size w2 wr) (fun _ i _ => N - (intOf i).toNat)
  case atStart => exact ⟨0, A2, n2, c2, Nat.zero_le _, rfl, rfl, s0, Below.refl _ _⟩
  case round =>
    clear s0
    obtain ⟨k, A, n, c, hk, rfl, rfl, s, hbr⟩ := hrel
    by_cases hlt : k < N
    · have hl := nest_len cc k
      have HL1 := Lib.hid (one_le hl (by omega))
      have HL2 := Lib.hid (show (flatAll [nopT, nestT cc k]).length ≤ 4000000 by rw [flatAll_cons, flatAll_cons, flatAll_nil, List.append_nil, List.length_append, nop_len]; omega)
      have hc3 : cc = 0 ∨ cc = 1 ∨ cc = 2 := by omega
      rcases hc3 with rfl | rfl | rfl
      · have z1 : z % 3 = 0 := hz1
        have z2 : (z + 3) % 3 = 0 := by omega
        go_wp2_with fail
        refine (newL_any 27 0 [] _ 1 1 [nestT 0 k] _ (AllRd.one s) rfl HL1.out).mono ?_
        rintro e w5 ⟨A5, n5, c5, rfl, o5, hb5⟩
        have s5 := o5.rd
        clear o5
        rw [← nest0] at s5
        clear z1 z2
        go_wp2_with fail
        go_roundw
        case rel => exact ⟨k + 1, A5, n5, c5, by omega, by go_num, rfl, s5, hbr.trans (hb5.mono hbr.size)⟩
        case measure => simp [intOf]; omega
      · have z1 : z % 3 = 1 := hz1
        have z2 : (z + 3) % 3 = 1 := by omega
        go_wp2_with fail
        refine (newT_any 20 0 [] none 0 0 [] _ (KdRd.nil _ _) rfl (of_decide_eq_true (by kernel_rfl))).mono ?_
        rintro e w4 ⟨A4, n4, c4, rfl, o4, hb4⟩
        have s4 : SlRd w4 (.slice A4 n4 c4) (flat nopT) := o4.rd
        replace s := s.below hb4
        clear o4
        go_wp2_with fail
        refine (newL_any 25 0 [] _ 2 2 [nopT, nestT 1 k] _ (AllRd.two s4 s) rfl HL2.out).mono ?_
        rintro e w5 ⟨A5, n5, c5, rfl, o5, hb5⟩
        have s5 := o5.rd
        clear o5
        rw [← nest1] at s5
        clear z1 z2 s4 s
        go_wp2_with fail
        go_roundw
        case rel => exact ⟨k + 1, A5, n5, c5, by omega, by go_num, rfl, s5, (hbr.trans (hb4.mono hbr.size)).trans (hb5.mono (Nat.le_trans hbr.size hb4.size))⟩
        case measure => simp [intOf]; omega
      · have z1 : z % 3 = 2 := hz1
        have z2 : (z + 3) % 3 = 2 := by omega
        go_wp2_with fail
        refine (newL_any 31 0 [102] _ 1 1 [nestT 2 k] _ (AllRd.one s) rfl HL1.out).mono ?_
        rintro e w5 ⟨A5, n5, c5, rfl, o5, hb5⟩
        have s5 := o5.rd
        clear o5
        rw [← nest2] at s5
        clear z1 z2
        go_wp2_with fail
        go_roundw
        case rel => exact ⟨k + 1, A5, n5, c5, by omega, by go_num, rfl, s5, hbr.trans (hb5.mono hbr.size)⟩
        case measure => simp [intOf]; omega
    · obtain rfl : N = k := by omega
      have hbw := hb.trans (hbr.mono hb.size)
      have hl := nest_len cc N
      have hS1 := HS.out.below hbw
      have hck := nest_check cc N hcc (by omega)
      by_cases h30 : N + 1 ≤ 30
      · rw [if_pos h30] at hck
        have CC := Lib.hid (check_ok _ _ L wr ((check_flat _).1 hck) (by omega) (nest_nd cc N) s hS1)
        have DD := Lib.hid (fun W (hb : Below wr.heap.size wr W) => depth_any (nestT cc N) (.slice A n c) W (s.below hb) (by omega))
        rw [nest_depth] at DD
        have hle : decide ((N : Int) + 1 ≤ 30) = true := decide_eq_true (by omega)
        clear hck hS1 hl s
        go_wp2_with fail
        refine CC.out.mono ?_
        rintro e w3 ⟨rfl, hb3⟩
        go_wp2_with fail
        refine (DD.out w3 hb3).mono ?_
        rintro e w4 ⟨rfl, hb4⟩
        replace hbw := hbw.trans (hb3.mono hbw.size)
        replace hbw := hbw.trans (hb4.mono hbw.size)
        go_wp2_with fail
        go_ret
        exact ⟨rfl, hbw⟩
      · rw [if_neg h30] at hck
        have CC := Lib.hid (check_at _ _ L wr (nestAt cc) true (many_false (by omega)) hck (nest_nd cc N) s hS1)
        rw [if_pos rfl] at CC
        have hle : decide ((N : Int) + 1 ≤ 30) = false := decide_eq_false (by omega)
        clear hck hl s
        go_wp2_with fail
        refine CC.out.mono ?_
        rintro e w3 ⟨g, rfl, hv, hb3⟩
        have HV := Lib.hid hv
        replace hbw := hbw.trans (hb3.mono hbw.size)
        clear CC hv hS1
        have hc3 : cc = 0 ∨ cc = 1 ∨ cc = 2 := by omega
        have hS3 := HS.out.below hbw
        rcases hc3 with rfl | rfl | rfl
        · have z1 : z % 3 = 0 := hz1
          have z2 : (z + 3) % 3 = 0 := by omega
          go_wp2_with fail
          refine (placed_any 102 30 _ (by decide)).mono ?_
          rintro e w4 ⟨v4, rfl, hf4, hb4⟩
          have HF := Lib.hid (seesame_any L w4 _ v4 102 102 [30] [30] (hS3.below hb4) (HV.out.below hb4) hf4 (by decide))
          replace hbw := hbw.trans (hb4.mono hbw.size)
          clear hf4 hb4
          go_wp2_with fail
          refine HF.out.mono ?_
          rintro e w5 ⟨rfl, hb5⟩
          replace hbw := hbw.trans (hb5.mono hbw.size)
          rw [show (((102 : Int) == 102) && SameI [30] [30]) = true from rfl]
          go_wp2_with fail
          go_ret
          exact ⟨rfl, hbw⟩
        · have z1 : z % 3 = 1 := hz1
          have z2 : (z + 3) % 3 = 1 := by omega
          go_wp2_with fail
          refine (placed_any 102 59 _ (by decide)).mono ?_
          rintro e w4 ⟨v4, rfl, hf4, hb4⟩
          have HF := Lib.hid (seesame_any L w4 _ v4 102 102 [59] [59] (hS3.below hb4) (HV.out.below hb4) hf4 (by decide))
          replace hbw := hbw.trans (hb4.mono hbw.size)
          clear hf4 hb4
          go_wp2_with fail
          refine HF.out.mono ?_
          rintro e w5 ⟨rfl, hb5⟩
          replace hbw := hbw.trans (hb5.mono hbw.size)
          rw [show (((102 : Int) == 102) && SameI [59] [59]) = true from rfl]
          go_wp2_with fail
          go_ret
          exact ⟨rfl, hbw⟩
        · have z1 : z % 3 = 2 := hz1
          have z2 : (z + 3) % 3 = 2 := by omega
          go_wp2_with fail
          refine (placed_any 102 30 _ (by decide)).mono ?_
          rintro e w4 ⟨v4, rfl, hf4, hb4⟩
          have HF := Lib.hid (seesame_any L w4 _ v4 102 102 [30] [30] (hS3.below hb4) (HV.out.below hb4) hf4 (by decide))
          replace hbw := hbw.trans (hb4.mono hbw.size)
          clear hf4 hb4
          go_wp2_with fail
          refine HF.out.mono ?_
          rintro e w5 ⟨rfl, hb5⟩
          replace hbw := hbw.trans (hb5.mono hbw.size)
          rw [show (((102 : Int) == 102) && SameI [30] [30]) = true from rfl]
          go_wp2_with fail
          go_ret
          exact ⟨rfl, hbw⟩

theorem corenests_card (a b : Int) (L : List Addr) (w : World) (_ : (Lit.int .i64 a).wf = true) (_ : (Lit.int .i64 b).wf = true) (hS : SenW w L) :
    Calls Tryd.prog 5 #[.int .i64 a, .int .i64 b] w fun e w' => e = .returned (.bool true) ∧ Below w.heap.size w w' := corenests_walk a b L w hS
end Go.Proofs.YtjhgljfmheopmaaDoor
