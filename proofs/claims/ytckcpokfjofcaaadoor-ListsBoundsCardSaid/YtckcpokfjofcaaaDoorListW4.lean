/- The walk over lists.two: two lists joined item by item. Bounds on the lengths. -/
import Derived.Test.YtckcpokfjofcaaaDoorListW3
import Derived.Test.YtckcpokfjofcaaaDoorRelT
import Derived.Deep.CutBlock
import Derived.Deep.CutRange
set_option linter.unusedVariables false
set_option linter.unusedSimpArgs false
namespace Go.Proofs.YtckcpokfjofcaaaDoor
open Go.RowKit

def oneS (B : Nat) (s : List UInt8) : TT := ⟨fun v => ∃ g, v = .slice (some ⟨g, 0, none⟩) 1 1, ⟨_, 0, rfl⟩, fun v x => x.ownsRow B 9 1 v 1 [.string ⟨s.toArray⟩], fun _ _ _ h hb => own_below h hb⟩
theorem atI_get {a : List (List UInt8)} {i : Nat} (h : min i (a.length - 1) < a.length) : atI a i = a[min i (a.length - 1)] := by rw [atI, List.getD_eq_getElem?_getD, List.getElem?_eq_getElem h]; rfl
theorem someL_le (l : List (List UInt8)) (h : l.length ≤ 1000000) : (someL l).length ≤ 1000000 := by
  unfold someL; split
  · decide
  · exact h
theorem someL_small {l : List (List UInt8)} (h : ∀ s ∈ l, s.length ≤ 1000000) : ∀ s ∈ someL l, s.length ≤ 1000000 := by
  unfold someL; split
  · intro s hs
    rw [List.mem_singleton] at hs
    subst hs
    decide
  · exact h
theorem ba_app (x y : List UInt8) : (⟨x.toArray⟩ ++ ⟨y.toArray⟩ : ByteArray) = ⟨(x ++ y).toArray⟩ := by
  apply ByteArray.ext
  simp [ByteArray.data_append]
theorem pairs_snoc (a b : List (List UInt8)) (i : Nat) : (List.range (i + 1)).map (fun i => atI a i ++ atI b i) = (List.range i).map (fun i => atI a i ++ atI b i) ++ [atI a i ++ atI b i] := by
  rw [List.range_succ, List.map_append]; rfl
set_option maxRecDepth 100000 in
set_option maxHeartbeats 2000000 in
theorem two_any (va vb : Value) (la lb : List (List UInt8)) (a : Addr) (w : World) (hA : SlS w va la) (hB : SlS w vb lb) (ha : la.length ≤ 1000000) (hb : lb.length ≤ 1000000) (hsa : ∀ s ∈ la, s.length ≤ 1000000) (hsb : ∀ s ∈ lb, s.length ≤ 1000000) (hE : BigW w a) :
    Calls Tryd.prog 28 #[va, vb] w (ListRet (twoL la lb) a w) := by
  obtain ⟨i0, hi, hz0, hz1, hz2⟩ := info_parts infoStr
  have SA := Lib.hid (some_any va la w hA ha)
  have SB := Lib.hid (fun W (hw : Below w.heap.size w W) => some_any vb lb W (hB.below hw) hb)
  have HR := Lib.hid (show twoL la lb = if 100 < lenT (someL la).length (someL lb).length then none else boundL (pairsL (someL la) (someL lb)) from rfl)
  have hpa := someL_pos la
  have hpb := someL_pos lb
  have hla : (someL la).length ≤ 1000000 := someL_le la ha
  have hlb : (someL lb).length ≤ 1000000 := someL_le lb hb
  have HSA := Lib.hid (someL_small hsa)
  have HSB := Lib.hid (someL_small hsb)
  clear hsa hsb
  have HE := Lib.hid hE
  unfold BigW bigV at hE
  generalize twoL la lb = R at *
  generalize someL la = xa at *
  generalize someL lb = xb at *
  obtain ⟨ma, hma⟩ : ∃ m, m = xa.length := ⟨_, rfl⟩
  obtain ⟨mb, hmb⟩ : ∃ m, m = xb.length := ⟨_, rfl⟩
  have HMA := Lib.hid hma
  have HMB := Lib.hid hmb
  rw [← hma] at hpa hla HR
  rw [← hmb] at hpb hlb HR
  clear hma hmb ha hb hA hB
  go_enter Tryd.func28, Tryd.ntmps28
  go_wp2_with fail
  refine SA.out.mono ?_
  rintro e w1 ⟨v1, rfl, hs1, hb1⟩
  go_wp2_with fail
  refine (SB.out _ hb1).mono ?_
  rintro e w2 ⟨v2, rfl, hs2, hb2⟩
  replace hs1 := hs1.below hb2
  have hb12 := hb1.trans (hb2.mono hb1.size)
  obtain ⟨A1, c1, rfl, hr1, hz1', hc1, hm1⟩ := hs1
  obtain ⟨A2, c2, rfl, hr2, hz2', hc2, hm2⟩ := hs2
  rw [← HMA.out] at hc1 ⊢
  rw [← HMB.out] at hc2 ⊢
  have hE2 := cell_keep hb12 hE
  clear hb1 hb2 SA SB hz1' hz2' hE
  go_upto_region 3 with (fail)
  go_cut [25] from 18 to 25 (fun v wx => v = .bool (decide (ma = 1 ∨ mb = 1)) ∧ w2 = wx)
  case first =>
    by_cases h1 : ma = 1
    · have q1 : ((ma : Int) == 1) = true := by rw [beq_iff_eq]; omega
      have HQ := Lib.hid (show decide (ma = 1 ∨ mb = 1) = true from decide_eq_true (.inl h1))
      clear h1
      go_wp2_with fail
      go_meet
      exact ⟨congrArg _ HQ.out.symm, rfl⟩
    · have q1 : ((ma : Int) == 1) = false := by rw [beq_eq_false_iff_ne]; omega
      have HQ := Lib.hid (show ((mb : Int) == 1) = decide (ma = 1 ∨ mb = 1) by rw [Bool.eq_iff_iff, beq_iff_eq, decide_eq_true_eq]; omega)
      clear h1
      go_wp2_with fail
      go_meet
      exact ⟨congrArg _ HQ.out, rfl⟩
  case rest =>
  obtain ⟨rfl, rfl⟩ := hcut
  have HQ1 := Lib.hid (show decide (ma = 1 ∨ mb = 1) = true → (max ma mb : Int) = (lenT ma mb : Nat) from fun h => by unfold lenT; rw [if_pos (of_decide_eq_true h)]; omega)
  have HQ2 := Lib.hid (show decide (ma = 1 ∨ mb = 1) = false → (min ma mb : Int) = (lenT ma mb : Nat) from fun h => by unfold lenT; rw [if_neg (of_decide_eq_false h)]; omega)
  generalize decide (ma = 1 ∨ mb = 1) = q at *
  go_upto_if 25 with (fail)
  go_cut [6] from 26 to 31 (fun v wx => v = .int .i64 (lenT ma mb) ∧ w2 = wx)
  case first =>
    cases q
    · go_wp2_with fail
      go_meet
      exact ⟨congrArg _ (HQ2.out (by first | trivial | rfl)), rfl⟩
    · go_wp2_with fail
      go_meet
      exact ⟨congrArg _ (HQ1.out (by first | trivial | rfl)), rfl⟩
  case rest =>
  obtain ⟨rfl, rfl⟩ := hcut
  clear HQ1 HQ2
  have hpn := lenT_pos hpa hpb
  have HX := Lib.hid (show ∀ i, i < lenT ma mb → (min i (ma - 1) < ma ∧ min i (mb - 1) < mb) from fun i _ => ⟨by omega, by omega⟩)
  have HP := Lib.hid (show pairsL xa xb = (List.range (lenT ma mb)).map (fun i => atI xa i ++ atI xb i) by unfold pairsL; rw [← HMA.out, ← HMB.out])
  generalize lenT ma mb = n at *
  by_cases h100 : 100 < n
  · have HN := Lib.hid (show R = none by rw [HR.out, if_pos h100])
    have l0 := Later.cell hE2
    go_upto_region 6 with (fail)
    refine wp_region_eq (by kernel_rfl) (by kernel_rfl) ?_
    apply EqGo.run
    focus
      kernel_rfl
    focus
      intro x K hK
      go_wp2_with fail
      first | exact hK x (Below.refl _ _) | exact Below.refl _ _
    simp only [Act.put, List.setIfInBounds_toArray, List.set_cons_succ, List.set_cons_zero]
    apply EqGo.run
    focus
      kernel_rfl
    focus
      intro x K hK
      go_wp2_with fail
      first | exact hK x (Below.refl _ _) | exact Below.refl _ _
    simp only [Act.put, List.setIfInBounds_toArray, List.set_cons_succ, List.set_cons_zero]
    apply EqGo.run
    focus
      kernel_rfl
    focus
      intro x K hK
      go_wp2_with fail
      first | exact hK x (Below.refl _ _) | exact Below.refl _ _
    simp only [Act.put, List.setIfInBounds_toArray, List.set_cons_succ, List.set_cons_zero]
    intro xq
    have hby := hb12.trans (xq.below.mono hb12.size)
    go_wp2_with fail
    go_ret2
    obtain rfl := HN.out
    exact ⟨rfl, hby⟩
  · have HN := Lib.hid (show R = boundL (pairsL xa xb) by rw [HR.out, if_neg h100])
    clear HR
    go_wp2_with fail
    go_loopw [7, 35] (fun v i wr => ∃ k : Nat, k ≤ n ∧ i = .int .i64 k ∧ wr.ownsRow w2.heap.size 9 1 v k (((List.range k).map fun i => atI xa i ++ atI xb i).flatMap strc) ∧ Below w2.heap.size w2 wr)
      (fun _ i _ => n - (intOf i).toNat)
    case atStart => exact ⟨0, Nat.zero_le _, rfl, World.ownsRow_nil _ _ _ _, Below.refl _ _⟩
    case round =>
      obtain ⟨k, hk, rfl, hown, hbx⟩ := hrel
      by_cases hlt : k < n
      · obtain ⟨g1, g2⟩ := HX.out k hlt
        have hr1' := hr1.below hbx
        have hr2' := hr2.below hbx
        have e1 : min k (xa.length - 1) < xa.length := by rw [← HMA.out]; exact g1
        have e2 : min k (xb.length - 1) < xb.length := by rw [← HMB.out]; exact g2
        obtain ⟨b1, o1, rfl⟩ := hr1.ats e1
        obtain ⟨b2, o2, rfl⟩ := hr2.ats e2
        have d1 := hr1'.strs e1
        have d2 := hr2'.strs e2
        have hs1 := HSA.out _ (List.getElem_mem e1)
        have hs2 := HSB.out _ (List.getElem_mem e2)
        rw [← atI_get e1] at d1 hs1
        rw [← atI_get e2] at d2 hs2
        rw [← HMA.out] at d1
        rw [← HMB.out] at d2
        have HS := Lib.hid (pairs_snoc xa xb k)
        obtain ⟨s1, hq1⟩ : ∃ s, s = atI xa k := ⟨_, rfl⟩
        obtain ⟨s2, hq2⟩ : ∃ s, s = atI xb k := ⟨_, rfl⟩
        rw [← hq1] at d1 hs1 HS
        rw [← hq2] at d2 hs2 HS
        have m1 : min (k : Int) ((ma : Int) - 1) = ((min k (ma - 1) : Nat) : Int) := by omega
        have m2 : min (k : Int) ((mb : Int) - 1) = ((min k (mb - 1) : Nat) : Int) := by omega
        clear e1 e2 hq1 hq2 hr1' hr2'
        generalize min k (ma - 1) = j1 at *
        generalize min k (mb - 1) = j2 at *
        generalize hacc : (List.range k).map (fun i => atI xa i ++ atI xb i) = acc at *
        clear hacc
        go_upto_region 11 with (fail)
        apply wp_region_relA 19 [eqT _, eqT _, eqT _, eqT _, eqT _, eqT _, eqT _, eqT _, eqT _, eqT _, eqT _, eqT _, eqT _, eqT _, eqT _, eqT _, eqT _, eqT (.string ⟨(s1 ++ s2).toArray⟩), oneS wr.heap.size (s1 ++ s2)] (by kernel_rfl) (by kernel_rfl) (by kernel_rfl) rfl
        focus
          refine ⟨?_, ?_⟩
          focus
            unfold opGoal
            rw [if_pos (by kernel_rfl)]
            intro x hb hd K hk
            clear hd
            go_wp2_with fail
            exact hk _ _ rfl trivial (Below.refl _ _)
          rintro _ rfl
          simp only [Act.put, List.setIfInBounds_toArray, List.set_cons_succ, List.set_cons_zero]
          refine ⟨?_, ?_⟩
          focus
            unfold opGoal
            rw [if_pos (by kernel_rfl)]
            intro x hb hd K hk
            clear hd
            go_wp2_with fail
            exact hk _ _ rfl trivial (Below.refl _ _)
          rintro _ rfl
          simp only [Act.put, List.setIfInBounds_toArray, List.set_cons_succ, List.set_cons_zero]
          refine ⟨?_, ?_⟩
          focus
            unfold opGoal
            rw [if_pos (by kernel_rfl)]
            intro x hb hd K hk
            clear hd
            go_wp2_with fail
            exact hk _ _ rfl trivial (Below.refl _ _)
          rintro _ rfl
          simp only [Act.put, List.setIfInBounds_toArray, List.set_cons_succ, List.set_cons_zero]
          refine ⟨?_, ?_⟩
          focus
            unfold opGoal
            rw [if_pos (by kernel_rfl)]
            intro x hb hd K hk
            clear hd
            go_wp2_with fail
            exact hk _ _ rfl trivial (Below.refl _ _)
          rintro _ rfl
          simp only [Act.put, List.setIfInBounds_toArray, List.set_cons_succ, List.set_cons_zero]
          refine ⟨?_, ?_⟩
          focus
            unfold opGoal
            rw [if_pos (by kernel_rfl)]
            intro x hb hd K hk
            clear hd
            go_wp2_with fail
            exact hk _ _ rfl trivial (Below.refl _ _)
          rintro _ rfl
          simp only [Act.put, List.setIfInBounds_toArray, List.set_cons_succ, List.set_cons_zero]
          refine ⟨?_, ?_⟩
          focus
            unfold opGoal
            rw [if_pos (by kernel_rfl)]
            intro x hb hd K hk
            clear hd
            go_wp2_with fail
            exact hk _ _ rfl trivial (Below.refl _ _)
          rintro _ rfl
          simp only [Act.put, List.setIfInBounds_toArray, List.set_cons_succ, List.set_cons_zero]
          refine ⟨?_, ?_⟩
          focus
            unfold opGoal
            rw [if_pos (by kernel_rfl)]
            intro x hb hd K hk
            clear hd
            go_wp2_with fail
            exact hk _ _ rfl trivial (Below.refl _ _)
          rintro _ rfl
          simp only [Act.put, List.setIfInBounds_toArray, List.set_cons_succ, List.set_cons_zero]
          refine ⟨?_, ?_⟩
          focus
            unfold opGoal
            rw [if_pos (by kernel_rfl)]
            intro x hb hd K hk
            clear hd
            go_wp2_with fail
            exact hk _ _ rfl trivial (Below.refl _ _)
          rintro _ rfl
          simp only [Act.put, List.setIfInBounds_toArray, List.set_cons_succ, List.set_cons_zero]
          refine ⟨?_, ?_⟩
          focus
            unfold opGoal
            rw [if_pos (by kernel_rfl)]
            intro x hb hd K hk
            clear hd
            have l0 := cell_keep hb d1
            go_wp2_with fail
            exact hk _ _ rfl trivial (Below.refl _ _)
          rintro _ rfl
          simp only [Act.put, List.setIfInBounds_toArray, List.set_cons_succ, List.set_cons_zero]
          refine ⟨?_, ?_⟩
          focus
            unfold opGoal
            rw [if_pos (by kernel_rfl)]
            intro x hb hd K hk
            clear hd
            go_wp2_with fail
            exact hk _ _ rfl trivial (Below.refl _ _)
          rintro _ rfl
          simp only [Act.put, List.setIfInBounds_toArray, List.set_cons_succ, List.set_cons_zero]
          refine ⟨?_, ?_⟩
          focus
            unfold opGoal
            rw [if_pos (by kernel_rfl)]
            intro x hb hd K hk
            clear hd
            go_wp2_with fail
            exact hk _ _ rfl trivial (Below.refl _ _)
          rintro _ rfl
          simp only [Act.put, List.setIfInBounds_toArray, List.set_cons_succ, List.set_cons_zero]
          refine ⟨?_, ?_⟩
          focus
            unfold opGoal
            rw [if_pos (by kernel_rfl)]
            intro x hb hd K hk
            clear hd
            go_wp2_with fail
            exact hk _ _ rfl trivial (Below.refl _ _)
          rintro _ rfl
          simp only [Act.put, List.setIfInBounds_toArray, List.set_cons_succ, List.set_cons_zero]
          refine ⟨?_, ?_⟩
          focus
            unfold opGoal
            rw [if_pos (by kernel_rfl)]
            intro x hb hd K hk
            clear hd
            go_wp2_with fail
            exact hk _ _ rfl trivial (Below.refl _ _)
          rintro _ rfl
          simp only [Act.put, List.setIfInBounds_toArray, List.set_cons_succ, List.set_cons_zero]
          refine ⟨?_, ?_⟩
          focus
            unfold opGoal
            rw [if_pos (by kernel_rfl)]
            intro x hb hd K hk
            clear hd
            go_wp2_with fail
            exact hk _ _ rfl trivial (Below.refl _ _)
          rintro _ rfl
          simp only [Act.put, List.setIfInBounds_toArray, List.set_cons_succ, List.set_cons_zero]
          refine ⟨?_, ?_⟩
          focus
            unfold opGoal
            rw [if_pos (by kernel_rfl)]
            intro x hb hd K hk
            clear hd
            go_wp2_with fail
            exact hk _ _ rfl trivial (Below.refl _ _)
          rintro _ rfl
          simp only [Act.put, List.setIfInBounds_toArray, List.set_cons_succ, List.set_cons_zero]
          refine ⟨?_, ?_⟩
          focus
            unfold opGoal
            rw [if_pos (by kernel_rfl)]
            intro x hb hd K hk
            clear hd
            go_wp2_with fail
            exact hk _ _ rfl trivial (Below.refl _ _)
          rintro _ rfl
          simp only [Act.put, List.setIfInBounds_toArray, List.set_cons_succ, List.set_cons_zero]
          refine ⟨?_, ?_⟩
          focus
            unfold opGoal
            rw [if_pos (by kernel_rfl)]
            intro x hb hd K hk
            clear hd
            have l0 := cell_keep hb d2
            go_wp2_with fail
            exact hk _ _ rfl trivial (Below.refl _ _)
          rintro _ rfl
          simp only [Act.put, List.setIfInBounds_toArray, List.set_cons_succ, List.set_cons_zero]
          refine ⟨?_, ?_⟩
          focus
            unfold opGoal
            rw [if_pos (by kernel_rfl)]
            intro x hb hd K hk
            clear hd
            go_wp2_with fail
            exact hk _ _ (congrArg Value.string (ba_app _ _)) trivial (Below.refl _ _)
          rintro _ rfl
          simp only [Act.put, List.setIfInBounds_toArray, List.set_cons_succ, List.set_cons_zero]
          refine ⟨?_, ?_⟩
          focus
            unfold opGoal
            rw [if_pos (by kernel_rfl)]
            intro x hb hd K hk
            clear hd
            go_wp2_with fail
            exact hk _ _ ⟨_, rfl⟩ (World.ownsRow_lit x #[.string ⟨(s1 ++ s2).toArray⟩] 1 hb.size (by decide) rfl) ((Below.refl _ _).alloc (Nat.le_refl _) _)
          rintro _ ⟨g56, rfl⟩
          simp only [Act.put, List.setIfInBounds_toArray, List.set_cons_succ, List.set_cons_zero]
          intro x hbq hf
          simp only [List.drop_succ_cons, List.drop_zero]
          have h56 : x.ownsRow wr.heap.size 9 1 (.slice (some ⟨g56, 0, none⟩) 1 1) 1 [.string ⟨(s1 ++ s2).toArray⟩] := hf 18 _ _ rfl rfl
          clear hf
          have hown' := own_below hown hbq
          have hrd56 : RdL x 1 strc (some ⟨g56, 0, none⟩) [s1 ++ s2] := by
            obtain ⟨A, c, he, _, _, hr, _⟩ := RdL.of_own (l := [s1 ++ s2]) strc_len h56 rfl
            injection he with he _ _
            rw [he]
            exact hr
          have hbz := hbx.trans (hbq.mono hbx.size)
          clear h56 hbq hown d1 d2
          go_upto_region 12 with (at_builtin; refine wpList_pushAll (enc := strc) rfl _ _ _ rfl Tryd.underlying22 hi hz0 hz1 hz2 rfl (by decide) hown' rfl rfl rfl hrd56 (fun h => by cases h) trivial strc_len strc_one (by omega) (by decide) hbz.size ?_; intro A9 c9 w9 ho9 hb9 hoo9)
          have hbz9 := hbz.trans hb9
          have HO := Lib.hid (show w9.ownsRow w2.heap.size 9 1 (.slice A9 (k + 1) c9) (k + 1) (((List.range (k + 1)).map fun i => atI xa i ++ atI xb i).flatMap strc) by rw [HS.out, List.flatMap_append]; exact ho9)
          clear ho9 hoo9 hb9 hbz
          go_wp2_with fail
          go_roundw
          case rel => exact ⟨k + 1, by omega, by go_num, HO.out, hbz9⟩
          case measure => simp [intOf]; omega
      · obtain rfl : n = k := by omega
        rw [← HP.out] at hown
        have hpl : (pairsL xa xb).length = n := by rw [HP.out, List.length_map, List.length_range]
        have HO := Lib.hid (show OwnS wr w2.heap.size _ (pairsL xa xb) by unfold OwnS; rw [hpl]; exact hown)
        obtain ⟨A, c, rfl, _⟩ := HO.out.rd
        have CB := Lib.hid (bound_any _ (pairsL xa xb) a wr HO.out.rd (by omega) (HE.out.below (hb12.trans (hbx.mono hb12.size))))
        rw [← HN.out] at CB
        have hbw := hb12.trans (hbx.mono hb12.size)
        rw [hpl] at CB ⊢
        clear hpl hown HO hbx HP
        go_wp2_with fail
        refine CB.out.mono ?_
        cases R with
        | none =>
          unfold ListRet bigV
          rintro e w3 ⟨rfl, hb3⟩
          go_wp2_with fail
          go_ret2
          exact ⟨rfl, hbw.trans (hb3.mono hbw.size)⟩
        | some r =>
          unfold ListRet
          rintro e w3 ⟨v3, rfl, ho3, hb3⟩
          go_wp2_with fail
          go_ret2
          exact ⟨v3, rfl, ho3.mono hbw.size, hbw.trans (hb3.mono hbw.size)⟩
end Go.Proofs.YtckcpokfjofcaaaDoor
