/- CoreMany: whatever number, the law answers true. No condition but what the package-level errors hold. -/
import Derived.Test.YtjhgljfmheopmaaDoorCoreF
import Derived.Test.YtjhgljfmheopmaaDoorSeqW
import Derived.Laws.BitsLemmas
import Derived.Deep.DeepCutAuto
import Derived.Outline
set_option linter.unusedVariables false
set_option linter.unusedSimpArgs false
namespace Go.Proofs.YtjhgljfmheopmaaDoor
open Go.RowKit

theorem i64_and15 (n : Int) : bits .and .i64 n 15 = n % 16 := by
  have hm : (BitVec.ofInt 64 15).toNat = 2 ^ 4 - 1 := by decide
  have key : (BitVec.ofInt 64 n &&& BitVec.ofInt 64 15).toNat = (n % ((2 ^ 64 : Nat) : Int)).toNat % 2 ^ 4 := by
    rw [BitVec.toNat_and, BitVec.toNat_ofInt, hm, Nat.and_two_pow_sub_one_eq_mod]
  show IntKind.i64.wrap ((BitVec.ofInt 64 n &&& BitVec.ofInt 64 15).toNat : Nat) = n % 16
  rw [key, IntKind.wrap_i64]
  omega

theorem nop_len : (flat nopT).length = 1 := by rw [nopT, flat_size, flatAll_nil]; rfl
theorem nops_ok (m : Nat) (hm : m ≤ 4000000) : ∀ x ∈ flat (.mk 23 0 [] (List.replicate m nopT)), NdOk x := by
  intro x hx
  rw [flat_mk, List.mem_cons] at hx
  rcases hx with rfl | hx
  · refine ⟨by simp, ?_⟩
    simp only [List.length_replicate]
    omega
  · have : ∀ m, x ∈ flatAll (List.replicate m nopT) → NdOk x := by
      intro m
      induction m with
      | zero => intro h; rw [List.replicate_zero, flatAll_nil] at h; cases h
      | succ m ih =>
        intro h
        rw [List.replicate_succ, flatAll_cons, List.mem_append] at h
        rcases h with h | h
        · rw [nopT, flat_mk, flatAll_nil, List.mem_singleton] at h
          subst h
          exact ⟨by simp, by simp⟩
        · exact ih h
    exact this m hx

set_option maxRecDepth 100000 in
set_option maxHeartbeats 4000000 in
theorem coremany_walk (n0 : Int) (L : List Addr) (w : World) (hS : SenW w L) :
    Calls Tryd.prog 4 #[.int .i64 n0] w fun e w' => e = .returned (.bool true) ∧ Below w.heap.size w w' := by
  obtain ⟨i0, hi, hz0, hz1, hz2⟩ := info_parts infoNodes
  have FA := Lib.hid (first5_any L w hS)
  obtain ⟨aN, aT, aM, _, _, _, h10⟩ := hS.errw
  have HM := Lib.hid h10
  have HS := Lib.hid hS
  clear h10 hS
  go_enter Tryd.func4, Tryd.ntmps4
  go_wp2_with fail
  refine FA.out.mono ?_
  rintro e w1 ⟨rfl, hb⟩
  go_upto_region 3 with (fail)
  rw [i64_and15]
  obtain ⟨N, hN1, hN2, hNe⟩ : ∃ N : Nat, 2995 ≤ N ∧ N ≤ 3010 ∧ wrap64 ((2995 : Int) + n0 % 16) = N := ⟨(2995 + n0 % 16).toNat, by omega, by omega, by unfold wrap64; omega⟩
  rw [hNe]
  clear hNe
  go_wp2_with fail
  go_loopw [4, 5] (fun v i wr => ∃ (k : Nat) (A' : Option Addr) (c' : Nat) (us : List Value), k + 1 ≤ N ∧ i = .int .i64 ((k : Int) + 1) ∧ v = .slice A' k c' ∧
      wr.ownsRow w1.heap.size 25 1 (.slice A' k c') k us ∧ OwnAll wr w1.heap.size us ((List.replicate k nopT).map flat) ∧ Below w1.heap.size w1 wr) (fun _ i _ => N - (intOf i).toNat)
  case atStart => exact ⟨0, none, 0, [], by omega, rfl, rfl, World.ownsRow_nil _ _ _ _, OwnAll.nil _ _, Below.refl _ _⟩
  case round =>
    obtain ⟨k, A', c', us, hk, rfl, rfl, hown, hall, hbr⟩ := hrel
    by_cases hlt : k + 1 < N
    · go_wp2_with fail
      refine (newT_any 20 0 [] none 0 0 [] _ (KdRd.nil _ _) rfl (of_decide_eq_true (by kernel_rfl))).mono ?_
      rintro e w2 ⟨A2, n2, c2, rfl, o2, hb2⟩
      have hown2 := own_below hown hb2
      have hall2 := hall.below hb2
      have hbr2 := hbr.trans (hb2.mono hbr.size)
      have H2 := Lib.hid (show OwnAll w2 w1.heap.size [.slice A2 n2 c2] [flat nopT] from by
        obtain ⟨A', c', he, h⟩ := o2
        rw [he]
        exact OwnAll.one (own_mono h hbr.size))
      clear o2 hown hall
      go_wp2_with (at_builtin; refine wpList_push rfl _ _ _ rfl Tryd.underlying23 hi hz0 hz1 hz2 rfl (by decide) hown2 rfl rfl rfl (by simp [Value.oneCell']) (by omega) (by decide) hbr2.size ?_; intro A4 c4 w4 hown4 hb4 hoo4)
      go_roundw
      case rel =>
        refine ⟨k + 1, A4, c4, us ++ [.slice A2 n2 c2], by omega, by go_num, rfl, by simpa using hown4, ?_, hbr2.trans hb4⟩
        rw [List.replicate_succ', List.map_append]
        exact (hall2.others hoo4 (by decide)).append (H2.out.others hoo4 (by decide))
      case measure => simp [intOf]; omega
    · obtain rfl : N = k + 1 := by omega
      have hkd := KdRd.of_own hown (by simp) hall
      have SC := Lib.hid (seq_any A' c' k (List.replicate k nopT) wr hkd (by simp) (by rw [flatAll_nops]; omega))
      have hq : ∀ W, (binOp .eql 29 (.iface 100 (.pointer (some aM))) (.iface 100 (.pointer (some aM)))).run Tryd.prog W = .ok (.bool true) W := fun W => by
        obtain ⟨i, hi, hc⟩ := map_some infoPE
        obtain ⟨j, hj, hs⟩ := map_some infoE
        exact run_eql_iface_ptr_same W aM Tryd.underlying29 Tryd.underlying100 hi hc hj
      have hbw := hb.trans (hbr.mono hb.size)
      clear hown hall hkd
      rw [seqT_many (by simp; omega)] at SC
      go_wp2_with fail
      refine SC.out.mono ?_
      rintro e w2 ⟨A2, n2, c2, rfl, o2, hb2⟩
      have s2 := o2.rd
      replace hbw := hbw.trans (hb2.mono hbw.size)
      have hS2 := HS.out.below hbw
      have EM := Lib.hid (hS2.var 10 _ _ rfl HM.out)
      have CN := Lib.hid (fun W hb => check_many (.slice none 0 0) [] L aM W (by decide) (by kernel_rfl) HM.out (fun x h => by cases h) ⟨none, 0, rfl, RdL.nil _ _ _ _, Nat.le_refl _, by decide, fun _ => rfl, trivial⟩ (hS2.below hb))
      clear o2 SC
      have hS2' := HS.out.below hbw
      have CNc := Lib.hid (fun W (hb : Below w2.heap.size w2 W) => CN.out W hb)
      by_cases h3 : k + 1 ≤ 3000
      · have CC := Lib.hid (check_ok (.slice A2 n2 c2) (.mk 23 0 [] (List.replicate k nopT)) L w2 (many_ok k (by omega)) (by rw [flat_size, flatAll_nops]; omega) (nops_ok k (by omega)) s2 hS2)
        clear s2
        go_wp2_with fail
        refine CC.out.mono ?_
        rintro e w3 ⟨rfl, hb3⟩
        have em := Later.cell (cell_keep hb3 EM.out)
        have CN3 := Lib.hid (fun W (hb : Below w3.heap.size w3 W) => CN.out W (hb3.trans (hb.mono hb3.size)))
        replace hbw := hbw.trans (hb3.mono hbw.size)
        unfold sentV at *
        have hle : decide (((k : Int) + 1) ≤ 3000) = true := decide_eq_true (by omega)
        clear CC CN CNc hb3
        go_upto_region 9 with (fail)
        refine wp_region_eq (by kernel_rfl) (by kernel_rfl) ?_
        apply EqGo.run
        focus
          kernel_rfl
        focus
          intro x K hK
          go_wp2_with fail
          first | exact hK x (Below.refl _ _) | exact Below.refl _ _
        simp only [Act.put, List.setIfInBounds_toArray, List.set_cons_succ, List.set_cons_zero]
        apply EqGo.run
        focus
          kernel_rfl
        focus
          intro x K hK
          go_wp2_with fail
          first | exact hK x (Below.refl _ _) | exact Below.refl _ _
        simp only [Act.put, List.setIfInBounds_toArray, List.set_cons_succ, List.set_cons_zero]
        apply EqGo.run
        focus
          kernel_rfl
        focus
          intro x K hK
          go_wp2_with fail
          first | exact hK x (Below.refl _ _) | exact Below.refl _ _
        simp only [Act.put, List.setIfInBounds_toArray, List.set_cons_succ, List.set_cons_zero]
        apply EqGo.run
        focus
          kernel_rfl
        focus
          intro x K hK
          go_wp2_with fail
          first | exact hK x (Below.refl _ _) | exact Below.refl _ _
        simp only [Act.put, List.setIfInBounds_toArray, List.set_cons_succ, List.set_cons_zero]
        apply EqGo.run
        focus
          kernel_rfl
        focus
          intro x K hK
          go_wp2_with fail
          first | exact hK x (Below.refl _ _) | exact Below.refl _ _
        simp only [Act.put, List.setIfInBounds_toArray, List.set_cons_succ, List.set_cons_zero]
        apply EqGo.run
        focus
          kernel_rfl
        focus
          intro x K hK
          go_wp2_with fail
          first | exact hK x (Below.refl _ _) | exact Below.refl _ _
        simp only [Act.put, List.setIfInBounds_toArray, List.set_cons_succ, List.set_cons_zero]
        apply EqGo.run
        focus
          kernel_rfl
        focus
          intro x K hK
          go_wp2_with fail
          first | exact hK x (Below.refl _ _) | exact Below.refl _ _
        simp only [Act.put, List.setIfInBounds_toArray, List.set_cons_succ, List.set_cons_zero]
        apply EqGo.run
        focus
          kernel_rfl
        focus
          intro x K hK
          go_wp2_with fail
          first | exact hK x (Below.refl _ _) | exact Below.refl _ _
        simp only [Act.put, List.setIfInBounds_toArray, List.set_cons_succ, List.set_cons_zero]
        apply EqGo.run
        focus
          kernel_rfl
        focus
          intro x K hK
          go_wp2_with fail
          first | exact hK x (Below.refl _ _) | exact Below.refl _ _
        simp only [Act.put, List.setIfInBounds_toArray, List.set_cons_succ, List.set_cons_zero]
        apply EqGo.run
        focus
          kernel_rfl
        focus
          intro x K hK
          go_wp2_with fail
          first | exact hK x (Below.refl _ _) | exact Below.refl _ _
        simp only [Act.put, List.setIfInBounds_toArray, List.set_cons_succ, List.set_cons_zero]
        apply EqGo.run
        focus
          kernel_rfl
        focus
          intro x K hK
          go_wp2_with fail
          first | exact hK x (Below.refl _ _) | exact Below.refl _ _
        simp only [Act.put, List.setIfInBounds_toArray, List.set_cons_succ, List.set_cons_zero]
        apply EqGo.run
        focus
          kernel_rfl
        focus
          intro x K hK
          go_wp2_with fail
          first | exact hK x (Below.refl _ _) | exact Below.refl _ _
        simp only [Act.put, List.setIfInBounds_toArray, List.set_cons_succ, List.set_cons_zero]
        apply EqGo.skip
        focus
          kernel_rfl
        simp only [Act.put, List.setIfInBounds_toArray, List.set_cons_succ, List.set_cons_zero]
        apply EqGo.skip
        focus
          kernel_rfl
        simp only [Act.put, List.setIfInBounds_toArray, List.set_cons_succ, List.set_cons_zero]
        apply EqGo.skip
        focus
          kernel_rfl
        simp only [Act.put, List.setIfInBounds_toArray, List.set_cons_succ, List.set_cons_zero]
        apply EqGo.run
        focus
          kernel_rfl
        focus
          intro x K hK
          go_wp2_with fail
          first | exact hK x (Below.refl _ _) | exact Below.refl _ _
        simp only [Act.put, List.setIfInBounds_toArray, List.set_cons_succ, List.set_cons_zero]
        apply EqGo.run
        focus
          kernel_rfl
        focus
          intro x K hK
          go_wp2_with fail
          first | exact hK x (Below.refl _ _) | exact Below.refl _ _
        simp only [Act.put, List.setIfInBounds_toArray, List.set_cons_succ, List.set_cons_zero]
        apply EqGo.run
        focus
          kernel_rfl
        focus
          intro x K hK
          go_wp2_with fail
          first | exact hK x (Below.refl _ _) | exact Below.refl _ _
        simp only [Act.put, List.setIfInBounds_toArray, List.set_cons_succ, List.set_cons_zero]
        apply EqGo.run
        focus
          kernel_rfl
        focus
          intro x K hK
          go_wp2_with fail
          refine (Hid.out CN3 x.val x.below).mono ?_
          rintro e x' ⟨rfl, hb'⟩
          exact hK ⟨x', x.below.trans (hb'.mono x.below.size)⟩ hb'
        simp only [Act.put, List.setIfInBounds_toArray, List.set_cons_succ, List.set_cons_zero]
        apply EqGo.run
        focus
          kernel_rfl
        focus
          intro x K hK
          go_wp2_with fail
          first | exact hK x (Below.refl _ _) | exact Below.refl _ _
        simp only [Act.put, List.setIfInBounds_toArray, List.set_cons_succ, List.set_cons_zero]
        apply EqGo.run
        focus
          kernel_rfl
        focus
          intro x K hK
          go_wp2_with fail
          first | exact hK x (Below.refl _ _) | exact Below.refl _ _
        simp only [Act.put, List.setIfInBounds_toArray, List.set_cons_succ, List.set_cons_zero]
        apply EqGo.run
        focus
          kernel_rfl
        focus
          intro x K hK
          go_wp2_with fail
          first | exact hK x (Below.refl _ _) | exact Below.refl _ _
        simp only [Act.put, List.setIfInBounds_toArray, List.set_cons_succ, List.set_cons_zero]
        apply EqGo.run
        focus
          kernel_rfl
        focus
          intro x K hK
          go_wp2_with fail
          first | exact hK x (Below.refl _ _) | exact Below.refl _ _
        simp only [Act.put, List.setIfInBounds_toArray, List.set_cons_succ, List.set_cons_zero]
        intro x
        have hbx := hbw.trans (x.below.mono hbw.size)
        go_wp2_with fail
        go_ret
        exact ⟨rfl, hbx⟩
      · have CC := Lib.hid (check_many (.slice A2 n2 c2) (flat (.mk 23 0 [] (List.replicate k nopT))) L aM w2 (by rw [flat_size, flatAll_nops]; omega) (by simp only [manyB, flat_size, flatAll_nops, Bool.or_eq_true, decide_eq_true_eq]; omega) HM.out (nops_ok k (by omega)) s2 hS2)
        clear s2
        go_wp2_with fail
        refine CC.out.mono ?_
        rintro e w3 ⟨rfl, hb3⟩
        have em := Later.cell (cell_keep hb3 EM.out)
        have CN3 := Lib.hid (fun W (hb : Below w3.heap.size w3 W) => CN.out W (hb3.trans (hb.mono hb3.size)))
        replace hbw := hbw.trans (hb3.mono hbw.size)
        have hle : decide (((k : Int) + 1) ≤ 3000) = false := decide_eq_false (by omega)
        unfold sentV at *
        clear CC CN CNc hb3
        go_upto_region 9 with (fail)
        refine wp_region_eq (by kernel_rfl) (by kernel_rfl) ?_
        apply EqGo.run
        focus
          kernel_rfl
        focus
          intro x K hK
          go_wp2_with fail
          first | exact hK x (Below.refl _ _) | exact Below.refl _ _
        simp only [Act.put, List.setIfInBounds_toArray, List.set_cons_succ, List.set_cons_zero]
        apply EqGo.run
        focus
          kernel_rfl
        focus
          intro x K hK
          go_wp2_with fail
          first | exact hK x (Below.refl _ _) | exact Below.refl _ _
        simp only [Act.put, List.setIfInBounds_toArray, List.set_cons_succ, List.set_cons_zero]
        apply EqGo.run
        focus
          kernel_rfl
        focus
          intro x K hK
          go_wp2_with fail
          first | exact hK x (Below.refl _ _) | exact Below.refl _ _
        simp only [Act.put, List.setIfInBounds_toArray, List.set_cons_succ, List.set_cons_zero]
        apply EqGo.run
        focus
          kernel_rfl
        focus
          intro x K hK
          go_wp2_with fail
          first | exact hK x (Below.refl _ _) | exact Below.refl _ _
        simp only [Act.put, List.setIfInBounds_toArray, List.set_cons_succ, List.set_cons_zero]
        apply EqGo.run
        focus
          kernel_rfl
        focus
          intro x K hK
          go_wp2_with fail
          first | exact hK x (Below.refl _ _) | exact Below.refl _ _
        simp only [Act.put, List.setIfInBounds_toArray, List.set_cons_succ, List.set_cons_zero]
        apply EqGo.run
        focus
          kernel_rfl
        focus
          intro x K hK
          go_wp2_with fail
          first | exact hK x (Below.refl _ _) | exact Below.refl _ _
        simp only [Act.put, List.setIfInBounds_toArray, List.set_cons_succ, List.set_cons_zero]
        apply EqGo.run
        focus
          kernel_rfl
        focus
          intro x K hK
          go_wp2_with fail
          first | exact hK x (Below.refl _ _) | exact Below.refl _ _
        simp only [Act.put, List.setIfInBounds_toArray, List.set_cons_succ, List.set_cons_zero]
        apply EqGo.run
        focus
          kernel_rfl
        focus
          intro x K hK
          go_wp2_with fail
          first | exact hK x (Below.refl _ _) | exact Below.refl _ _
        simp only [Act.put, List.setIfInBounds_toArray, List.set_cons_succ, List.set_cons_zero]
        apply EqGo.run
        focus
          kernel_rfl
        focus
          intro x K hK
          go_wp2_with fail
          first | exact hK x (Below.refl _ _) | exact Below.refl _ _
        simp only [Act.put, List.setIfInBounds_toArray, List.set_cons_succ, List.set_cons_zero]
        apply EqGo.run
        focus
          kernel_rfl
        focus
          intro x K hK
          go_wp2_with fail
          first | exact hK x (Below.refl _ _) | exact Below.refl _ _
        simp only [Act.put, List.setIfInBounds_toArray, List.set_cons_succ, List.set_cons_zero]
        apply EqGo.run
        focus
          kernel_rfl
        focus
          intro x K hK
          go_wp2_with fail
          first | exact hK x (Below.refl _ _) | exact Below.refl _ _
        simp only [Act.put, List.setIfInBounds_toArray, List.set_cons_succ, List.set_cons_zero]
        apply EqGo.run
        focus
          kernel_rfl
        focus
          intro x K hK
          go_wp2_with fail
          first | exact hK x (Below.refl _ _) | exact Below.refl _ _
        simp only [Act.put, List.setIfInBounds_toArray, List.set_cons_succ, List.set_cons_zero]
        apply EqGo.run
        focus
          kernel_rfl
        focus
          intro x K hK
          go_wp2_with fail
          first | exact hK x (Below.refl _ _) | exact Below.refl _ _
        simp only [Act.put, List.setIfInBounds_toArray, List.set_cons_succ, List.set_cons_zero]
        apply EqGo.run
        focus
          kernel_rfl
        focus
          intro x K hK
          go_wp2_with fail
          first | exact hK x (Below.refl _ _) | exact Below.refl _ _
        simp only [Act.put, List.setIfInBounds_toArray, List.set_cons_succ, List.set_cons_zero]
        apply EqGo.run
        focus
          kernel_rfl
        focus
          intro x K hK
          go_wp2_with fail
          first | exact hK x (Below.refl _ _) | exact Below.refl _ _
        simp only [Act.put, List.setIfInBounds_toArray, List.set_cons_succ, List.set_cons_zero]
        apply EqGo.run
        focus
          kernel_rfl
        focus
          intro x K hK
          go_wp2_with fail
          first | exact hK x (Below.refl _ _) | exact Below.refl _ _
        simp only [Act.put, List.setIfInBounds_toArray, List.set_cons_succ, List.set_cons_zero]
        apply EqGo.run
        focus
          kernel_rfl
        focus
          intro x K hK
          go_wp2_with fail
          first | exact hK x (Below.refl _ _) | exact Below.refl _ _
        simp only [Act.put, List.setIfInBounds_toArray, List.set_cons_succ, List.set_cons_zero]
        apply EqGo.run
        focus
          kernel_rfl
        focus
          intro x K hK
          go_wp2_with fail
          first | exact hK x (Below.refl _ _) | exact Below.refl _ _
        simp only [Act.put, List.setIfInBounds_toArray, List.set_cons_succ, List.set_cons_zero]
        apply EqGo.run
        focus
          kernel_rfl
        focus
          intro x K hK
          go_wp2_with fail
          refine (Hid.out CN3 x.val x.below).mono ?_
          rintro e x' ⟨rfl, hb'⟩
          exact hK ⟨x', x.below.trans (hb'.mono x.below.size)⟩ hb'
        simp only [Act.put, List.setIfInBounds_toArray, List.set_cons_succ, List.set_cons_zero]
        apply EqGo.run
        focus
          kernel_rfl
        focus
          intro x K hK
          go_wp2_with fail
          first | exact hK x (Below.refl _ _) | exact Below.refl _ _
        simp only [Act.put, List.setIfInBounds_toArray, List.set_cons_succ, List.set_cons_zero]
        apply EqGo.run
        focus
          kernel_rfl
        focus
          intro x K hK
          go_wp2_with fail
          first | exact hK x (Below.refl _ _) | exact Below.refl _ _
        simp only [Act.put, List.setIfInBounds_toArray, List.set_cons_succ, List.set_cons_zero]
        apply EqGo.run
        focus
          kernel_rfl
        focus
          intro x K hK
          go_wp2_with fail
          first | exact hK x (Below.refl _ _) | exact Below.refl _ _
        simp only [Act.put, List.setIfInBounds_toArray, List.set_cons_succ, List.set_cons_zero]
        apply EqGo.run
        focus
          kernel_rfl
        focus
          intro x K hK
          go_wp2_with fail
          first | exact hK x (Below.refl _ _) | exact Below.refl _ _
        simp only [Act.put, List.setIfInBounds_toArray, List.set_cons_succ, List.set_cons_zero]
        intro x
        have hbx := hbw.trans (x.below.mono hbw.size)
        go_wp2_with fail
        go_ret
        exact ⟨rfl, hbx⟩
theorem coremany_card (n0 : Int) (L : List Addr) (w : World) (_ : (Lit.int .i64 n0).wf = true) (hS : SenW w L) :
    Calls Tryd.prog 4 #[.int .i64 n0] w fun e w' => e = .returned (.bool true) ∧ Below w.heap.size w w' := coremany_walk n0 L w hS
end Go.Proofs.YtjhgljfmheopmaaDoor
