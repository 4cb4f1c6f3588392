/- The walk over lists.two: two lists joined item by item. Bounds on the lengths. -/
import Derived.Test.YtlhpflilpdceiaaGreatDoorListW3
import Derived.Test.YtlhpflilpdceiaaGreatDoorJD
import Derived.Deep.CutBlock
import Derived.Deep.CutRange
set_option linter.unusedVariables false
set_option linter.unusedSimpArgs false
namespace Go.Proofs.YtlhpflilpdceiaaGreatDoor
open Go.RowKit

def oneS (B : Nat) (s : List UInt8) : TT := ⟨fun v => ∃ g, v = .slice (some ⟨g, 0, none⟩) 1 1, ⟨_, 0, rfl⟩, fun v x => x.ownsRow B 9 1 v 1 [.string ⟨s.toArray⟩], fun _ _ _ h hb => own_below h hb⟩
theorem atI_get {a : List (List UInt8)} {i : Nat} (h : min i (a.length - 1) < a.length) : atI a i = a[min i (a.length - 1)] := by rw [atI, List.getD_eq_getElem?_getD, List.getElem?_eq_getElem h]; rfl
theorem someL_le (l : List (List UInt8)) (h : l.length ≤ 1000000) : (someL l).length ≤ 1000000 := by
  unfold someL; split
  · decide
  · exact h
theorem someL_small {l : List (List UInt8)} (h : ∀ s ∈ l, s.length ≤ 1000000) : ∀ s ∈ someL l, s.length ≤ 1000000 := by
  unfold someL; split
  · intro s hs
    rw [List.mem_singleton] at hs
    subst hs
    decide
  · exact h
theorem ba_app (x y : List UInt8) : (⟨x.toArray⟩ ++ ⟨y.toArray⟩ : ByteArray) = ⟨(x ++ y).toArray⟩ := by
  apply ByteArray.ext
  simp [ByteArray.data_append]
theorem pairs_snoc (a b : List (List UInt8)) (i : Nat) : (List.range (i + 1)).map (fun i => atI a i ++ atI b i) = (List.range i).map (fun i => atI a i ++ atI b i) ++ [atI a i ++ atI b i] := by
  rw [List.range_succ, List.map_append]; rfl
set_option maxRecDepth 100000 in
set_option maxHeartbeats 2000000 in
theorem two_any (va vb : Value) (la lb : List (List UInt8)) (a : Addr) (w : World) (hA : SlS w va la) (hB : SlS w vb lb) (ha : la.length ≤ 1000000) (hb : lb.length ≤ 1000000) (hsa : ∀ s ∈ la, s.length ≤ 1000000) (hsb : ∀ s ∈ lb, s.length ≤ 1000000) (hE : BigW w a) :
    Calls Tryz.prog 32 #[va, vb] w (ListRet (twoL la lb) a w) := by
  obtain ⟨i0, hi, hz0, hz1, hz2⟩ := info_parts infoStr
  have SA := Lib.hid (some_any va la w hA ha)
  have SB := Lib.hid (fun W (hw : Below w.heap.size w W) => some_any vb lb W (hB.below hw) hb)
  have HR := Lib.hid (show twoL la lb = if 100 < lenT (someL la).length (someL lb).length then none else boundL (pairsL (someL la) (someL lb)) from rfl)
  have hpa := someL_pos la
  have hpb := someL_pos lb
  have hla : (someL la).length ≤ 1000000 := someL_le la ha
  have hlb : (someL lb).length ≤ 1000000 := someL_le lb hb
  have HSA := Lib.hid (someL_small hsa)
  have HSB := Lib.hid (someL_small hsb)
  clear hsa hsb
  have HE := Lib.hid hE
  unfold BigW bigV at hE
  generalize twoL la lb = R at *
  generalize someL la = xa at *
  generalize someL lb = xb at *
  obtain ⟨ma, hma⟩ : ∃ m, m = xa.length := ⟨_, rfl⟩
  obtain ⟨mb, hmb⟩ : ∃ m, m = xb.length := ⟨_, rfl⟩
  have HMA := Lib.hid hma
  have HMB := Lib.hid hmb
  rw [← hma] at hpa hla HR
  rw [← hmb] at hpb hlb HR
  clear hma hmb ha hb hA hB
  go_enter Tryz.func32, Tryz.ntmps32
  go_wp2_with fail
  refine SA.out.mono ?_
  rintro e w1 ⟨v1, rfl, hs1, hb1⟩
  go_wp2_with fail
  refine (SB.out _ hb1).mono ?_
  rintro e w2 ⟨v2, rfl, hs2, hb2⟩
  replace hs1 := hs1.below hb2
  have hb12 := hb1.trans (hb2.mono hb1.size)
  obtain ⟨A1, c1, rfl, hr1, hz1', hc1, hm1⟩ := hs1
  obtain ⟨A2, c2, rfl, hr2, hz2', hc2, hm2⟩ := hs2
  rw [← HMA.out] at hc1 ⊢
  rw [← HMB.out] at hc2 ⊢
  have hE2 := cell_keep hb12 hE
  clear hb1 hb2 SA SB hz1' hz2' hE
  go_upto_region 3 with (fail)
  go_cut [25] from 18 to 25 (fun v wx => v = .bool (decide (ma = 1 ∨ mb = 1)) ∧ w2 = wx)
  case first =>
    by_cases h1 : ma = 1
    · have q1 : ((ma : Int) == 1) = true := by rw [beq_iff_eq]; omega
      have HQ := Lib.hid (show decide (ma = 1 ∨ mb = 1) = true from decide_eq_true (.inl h1))
      clear h1
      go_wp2_with fail
      go_meet
      exact ⟨congrArg _ HQ.out.symm, rfl⟩
    · have q1 : ((ma : Int) == 1) = false := by rw [beq_eq_false_iff_ne]; omega
      have HQ := Lib.hid (show ((mb : Int) == 1) = decide (ma = 1 ∨ mb = 1) by rw [Bool.eq_iff_iff, beq_iff_eq, decide_eq_true_eq]; omega)
      clear h1
      go_wp2_with fail
      go_meet
      exact ⟨congrArg _ HQ.out, rfl⟩
  case rest =>
  obtain ⟨rfl, rfl⟩ := hcut
  have HQ1 := Lib.hid (show decide (ma = 1 ∨ mb = 1) = true → (max ma mb : Int) = (lenT ma mb : Nat) from fun h => by unfold lenT; rw [if_pos (of_decide_eq_true h)]; omega)
  have HQ2 := Lib.hid (show decide (ma = 1 ∨ mb = 1) = false → (min ma mb : Int) = (lenT ma mb : Nat) from fun h => by unfold lenT; rw [if_neg (of_decide_eq_false h)]; omega)
  generalize decide (ma = 1 ∨ mb = 1) = q at *
  go_upto_if 25 with (fail)
  go_cut [6] from 26 to 31 (fun v wx => v = .int .i64 (lenT ma mb) ∧ w2 = wx)
  case first =>
    cases q
    · go_wp2_with fail
      go_meet
      exact ⟨congrArg _ (HQ2.out (by first | trivial | rfl)), rfl⟩
    · go_wp2_with fail
      go_meet
      exact ⟨congrArg _ (HQ1.out (by first | trivial | rfl)), rfl⟩
  case rest =>
  obtain ⟨rfl, rfl⟩ := hcut
  clear HQ1 HQ2
  have hpn := lenT_pos hpa hpb
  have HX := Lib.hid (show ∀ i, i < lenT ma mb → (min i (ma - 1) < ma ∧ min i (mb - 1) < mb) from fun i _ => ⟨by omega, by omega⟩)
  have HP := Lib.hid (show pairsL xa xb = (List.range (lenT ma mb)).map (fun i => atI xa i ++ atI xb i) by unfold pairsL; rw [← HMA.out, ← HMB.out])
  generalize lenT ma mb = n at *
  by_cases h100 : 100 < n
  · have HN := Lib.hid (show R = none by rw [HR.out, if_pos h100])
    have l0 := Later.cell hE2
    go_upto_region 6 with (fail)
    refine wp_region_eq (by kernel_rfl) (by kernel_rfl) ?_
    apply EqGo.run
    focus
      kernel_rfl
    focus
      intro x K hK
      go_wp2_with fail
      first | exact hK x (Below.refl _ _) | exact Below.refl _ _
    simp only [Act.put, List.setIfInBounds_toArray, List.set_cons_succ, List.set_cons_zero]
    apply EqGo.run
    focus
      kernel_rfl
    focus
      intro x K hK
      go_wp2_with fail
      first | exact hK x (Below.refl _ _) | exact Below.refl _ _
    simp only [Act.put, List.setIfInBounds_toArray, List.set_cons_succ, List.set_cons_zero]
    apply EqGo.run
    focus
      kernel_rfl
    focus
      intro x K hK
      go_wp2_with fail
      first | exact hK x (Below.refl _ _) | exact Below.refl _ _
    simp only [Act.put, List.setIfInBounds_toArray, List.set_cons_succ, List.set_cons_zero]
    intro xq
    have hby := hb12.trans (xq.below.mono hb12.size)
    go_wp2_with fail
    go_ret2
    obtain rfl := HN.out
    exact ⟨rfl, hby⟩
  · have HN := Lib.hid (show R = boundL (pairsL xa xb) by rw [HR.out, if_neg h100])
    clear HR
    go_wp2_with fail
    go_loopw [7, 35] (fun v i wr => ∃ k : Nat, k ≤ n ∧ i = .int .i64 k ∧ wr.ownsRow w2.heap.size 9 1 v k (((List.range k).map fun i => atI xa i ++ atI xb i).flatMap strc) ∧ Below w2.heap.size w2 wr)
      (fun _ i _ => n - (intOf i).toNat)
    case atStart => exact ⟨0, Nat.zero_le _, rfl, World.ownsRow_nil _ _ _ _, Below.refl _ _⟩
    case round =>
      obtain ⟨k, hk, rfl, hown, hbx⟩ := hrel
      by_cases hlt : k < n
      · obtain ⟨g1, g2⟩ := HX.out k hlt
        have hr1' := hr1.below hbx
        have hr2' := hr2.below hbx
        have e1 : min k (xa.length - 1) < xa.length := by rw [← HMA.out]; exact g1
        have e2 : min k (xb.length - 1) < xb.length := by rw [← HMB.out]; exact g2
        obtain ⟨b1, o1, rfl⟩ := hr1.ats e1
        obtain ⟨b2, o2, rfl⟩ := hr2.ats e2
        have d1 := hr1'.strs e1
        have d2 := hr2'.strs e2
        have hs1 := HSA.out _ (List.getElem_mem e1)
        have hs2 := HSB.out _ (List.getElem_mem e2)
        rw [← atI_get e1] at d1 hs1
        rw [← atI_get e2] at d2 hs2
        rw [← HMA.out] at d1
        rw [← HMB.out] at d2
        have HS := Lib.hid (pairs_snoc xa xb k)
        obtain ⟨s1, hq1⟩ : ∃ s, s = atI xa k := ⟨_, rfl⟩
        obtain ⟨s2, hq2⟩ : ∃ s, s = atI xb k := ⟨_, rfl⟩
        rw [← hq1] at d1 hs1 HS
        rw [← hq2] at d2 hs2 HS
        have m1 : min (k : Int) ((ma : Int) - 1) = ((min k (ma - 1) : Nat) : Int) := by omega
        have m2 : min (k : Int) ((mb : Int) - 1) = ((min k (mb - 1) : Nat) : Int) := by omega
        clear e1 e2 hq1 hq2 hr1' hr2'
        generalize min k (ma - 1) = j1 at *
        generalize min k (mb - 1) = j2 at *
        generalize hacc : (List.range k).map (fun i => atI xa i ++ atI xb i) = acc at *
        clear hacc
        go_upto_region 11 with (fail)
        apply wp_region_relA 19 [eqT _, eqT _, eqT _, eqT _, eqT _, eqT _, eqT _, eqT _, eqT _, eqT _, eqT _, eqT _, eqT _, eqT _, eqT _, eqT _, eqT _, eqT (.string ⟨(s1 ++ s2).toArray⟩), oneS wr.heap.size (s1 ++ s2)] (by kernel_rfl) (by kernel_rfl) (by kernel_rfl) rfl
        focus
          refine ⟨?_, ?_⟩
          focus
            unfold opGoal
            rw [if_pos (by kernel_rfl)]
            intro x hb hd K hk
            clear hd
            go_wp2_with fail
            exact hk _ _ rfl trivial (Below.refl _ _)
          rintro _ rfl
          simp only [Act.put, List.setIfInBounds_toArray, List.set_cons_succ, List.set_cons_zero]
          refine ⟨?_, ?_⟩
          focus
            unfold opGoal
            rw [if_pos (by kernel_rfl)]
            intro x hb hd K hk
            clear hd
            go_wp2_with fail
            exact hk _ _ rfl trivial (Below.refl _ _)
          rintro _ rfl
          simp only [Act.put, List.setIfInBounds_toArray, List.set_cons_succ, List.set_cons_zero]
          refine ⟨?_, ?_⟩
          focus
            unfold opGoal
            rw [if_pos (by kernel_rfl)]
            intro x hb hd K hk
            clear hd
            go_wp2_with fail
            exact hk _ _ rfl trivial (Below.refl _ _)
          rintro _ rfl
          simp only [Act.put, List.setIfInBounds_toArray, List.set_cons_succ, List.set_cons_zero]
          refine ⟨?_, ?_⟩
          focus
            unfold opGoal
            rw [if_pos (by kernel_rfl)]
            intro x hb hd K hk
            clear hd
            go_wp2_with fail
            exact hk _ _ rfl trivial (Below.refl _ _)
          rintro _ rfl
          simp only [Act.put, List.setIfInBounds_toArray, List.set_cons_succ, List.set_cons_zero]
          refine ⟨?_, ?_⟩
          focus
            unfold opGoal
            rw [if_pos (by kernel_rfl)]
            intro x hb hd K hk
            clear hd
            go_wp2_with fail
            exact hk _ _ rfl trivial (Below.refl _ _)
          rintro _ rfl
          simp only [Act.put, List.setIfInBounds_toArray, List.set_cons_succ, List.set_cons_zero]
          refine ⟨?_, ?_⟩
          focus
            unfold opGoal
            rw [if_pos (by kernel_rfl)]
            intro x hb hd K hk
            clear hd
            go_wp2_with fail
            exact hk _ _ rfl trivial (Below.refl _ _)
          rintro _ rfl
          simp only [Act.put, List.setIfInBounds_toArray, List.set_cons_succ, List.set_cons_zero]
          refine ⟨?_, ?_⟩
          focus
            unfold opGoal
            rw [if_pos (by kernel_rfl)]
            intro x hb hd K hk
            clear hd
            go_wp2_with fail
            exact hk _ _ rfl trivial (Below.refl _ _)
          rintro _ rfl
          simp only [Act.put, List.setIfInBounds_toArray, List.set_cons_succ, List.set_cons_zero]
          refine ⟨?_, ?_⟩
          focus
            unfold opGoal
            rw [if_pos (by kernel_rfl)]
            intro x hb hd K hk
            clear hd
            go_wp2_with fail
            exact hk _ _ rfl trivial (Below.refl _ _)
          rintro _ rfl
          simp only [Act.put, List.setIfInBounds_toArray, List.set_cons_succ, List.set_cons_zero]
          refine ⟨?_, ?_⟩
          focus
            unfold opGoal
            rw [if_pos (by kernel_rfl)]
            intro x hb hd K hk
            clear hd
            have l0 := cell_keep hb d1
            go_wp2_with fail
            exact hk _ _ rfl trivial (Below.refl _ _)
          rintro _ rfl
          simp only [Act.put, List.setIfInBounds_toArray, List.set_cons_succ, List.set_cons_zero]
          refine ⟨?_, ?_⟩
          focus
            unfold opGoal
            rw [if_pos (by kernel_rfl)]
            intro x hb hd K hk
            clear hd
            go_wp2_with fail
            exact hk _ _ rfl trivial (Below.refl _ _)
          rintro _ rfl
          simp only [Act.put, List.setIfInBounds_toArray, List.set_cons_succ, List.set_cons_zero]
          refine ⟨?_, ?_⟩
          focus
            unfold opGoal
            rw [if_pos (by kernel_rfl)]
            intro x hb hd K hk
            clear hd
            go_wp2_with fail
            exact hk _ _ rfl trivial (Below.refl _ _)
          rintro _ rfl
          simp only [Act.put, List.setIfInBounds_toArray, List.set_cons_succ, List.set_cons_zero]
          refine ⟨?_, ?_⟩
          focus
            unfold opGoal
            rw [if_pos (by kernel_rfl)]
            intro x hb hd K hk
            clear hd
            go_wp2_with fail
            exact hk _ _ rfl trivial (Below.refl _ _)
          rintro _ rfl
          simp only [Act.put, List.setIfInBounds_toArray, List.set_cons_succ, List.set_cons_zero]
          refine ⟨?_, ?_⟩
          focus
            unfold opGoal
            rw [if_pos (by kernel_rfl)]
            intro x hb hd K hk
            clear hd
            go_wp2_with fail
            exact hk _ _ rfl trivial (Below.refl _ _)
          rintro _ rfl
          simp only [Act.put, List.setIfInBounds_toArray, List.set_cons_succ, List.set_cons_zero]
          refine ⟨?_, ?_⟩
          focus
            unfold opGoal
            rw [if_pos (by kernel_rfl)]
            intro x hb hd K hk
            clear hd
            go_wp2_with fail
            exact hk _ _ rfl trivial (Below.refl _ _)
          rintro _ rfl
          simp only [Act.put, List.setIfInBounds_toArray, List.set_cons_succ, List.set_cons_zero]
          refine ⟨?_, ?_⟩
          focus
            unfold opGoal
            rw [if_pos (by kernel_rfl)]
            intro x hb hd K hk
            clear hd
            go_wp2_with fail
            exact hk _ _ rfl trivial (Below.refl _ _)
          rintro _ rfl
          simp only [Act.put, List.setIfInBounds_toArray, List.set_cons_succ, List.set_cons_zero]
          refine ⟨?_, ?_⟩
          focus
            unfold opGoal
            rw [if_pos (by kernel_rfl)]
            intro x hb hd K hk
            clear hd
            go_wp2_with fail
            exact hk _ _ rfl trivial (Below.refl _ _)
          rintro _ rfl
          simp only [Act.put, List.setIfInBounds_toArray, List.set_cons_succ, List.set_cons_zero]
          refine ⟨?_, ?_⟩
          focus
            unfold opGoal
            rw [if_pos (by kernel_rfl)]
            intro x hb hd K hk
            clear hd
            have l0 := cell_keep hb d2
            go_wp2_with fail
            exact hk _ _ rfl trivial (Below.refl _ _)
          rintro _ rfl
          simp only [Act.put, List.setIfInBounds_toArray, List.set_cons_succ, List.set_cons_zero]
          refine ⟨?_, ?_⟩
          focus
            unfold opGoal
            rw [if_pos (by kernel_rfl)]
            intro x hb hd K hk
            clear hd
            go_wp2_with fail
            exact hk _ _ (congrArg Value.string (ba_app _ _)) trivial (Below.refl _ _)
          rintro _ rfl
          simp only [Act.put, List.setIfInBounds_toArray, List.set_cons_succ, List.set_cons_zero]
          refine ⟨?_, ?_⟩
          focus
            unfold opGoal
            rw [if_pos (by kernel_rfl)]
            intro x hb hd K hk
            clear hd
            go_wp2_with fail
            exact hk _ _ ⟨_, rfl⟩ (World.ownsRow_lit x #[.string ⟨(s1 ++ s2).toArray⟩] 1 hb.size (by decide) rfl) ((Below.refl _ _).alloc (Nat.le_refl _) _)
          rintro _ ⟨g56, rfl⟩
          simp only [Act.put, List.setIfInBounds_toArray, List.set_cons_succ, List.set_cons_zero]
          intro x hbq hf
          simp only [List.drop_succ_cons, List.drop_zero]
          have h56 : x.ownsRow wr.heap.size 9 1 (.slice (some ⟨g56, 0, none⟩) 1 1) 1 [.string ⟨(s1 ++ s2).toArray⟩] := hf 18 _ _ rfl rfl
          clear hf
          have hown' := own_below hown hbq
          have hrd56 : RdL x 1 strc (some ⟨g56, 0, none⟩) [s1 ++ s2] := by
            obtain ⟨A, c, he, _, _, hr, _⟩ := RdL.of_own (l := [s1 ++ s2]) strc_len h56 rfl
            injection he with he _ _
            rw [he]
            exact hr
          have hbz := hbx.trans (hbq.mono hbx.size)
          clear h56 hbq hown d1 d2
          go_upto_region 12 with (at_builtin; refine wpList_pushAll (enc := strc) rfl _ _ _ rfl Tryz.underlying23 hi hz0 hz1 hz2 rfl (by decide) hown' rfl rfl rfl hrd56 (fun h => by cases h) trivial strc_len strc_one (by omega) (by decide) hbz.size ?_; intro A9 c9 w9 ho9 hb9 hoo9)
          have hbz9 := hbz.trans hb9
          have HO := Lib.hid (show w9.ownsRow w2.heap.size 9 1 (.slice A9 (k + 1) c9) (k + 1) (((List.range (k + 1)).map fun i => atI xa i ++ atI xb i).flatMap strc) by rw [HS.out, List.flatMap_append]; exact ho9)
          clear ho9 hoo9 hb9 hbz
          go_wp2_with fail
          go_roundw
          case rel => exact ⟨k + 1, by omega, by go_num, HO.out, hbz9⟩
          case measure => simp [intOf]; omega
      · obtain rfl : n = k := by omega
        rw [← HP.out] at hown
        have hpl : (pairsL xa xb).length = n := by rw [HP.out, List.length_map, List.length_range]
        have HO := Lib.hid (show OwnS wr w2.heap.size _ (pairsL xa xb) by unfold OwnS; rw [hpl]; exact hown)
        obtain ⟨A, c, rfl, _⟩ := HO.out.rd
        have CB := Lib.hid (bound_any _ (pairsL xa xb) a wr HO.out.rd (by omega) (HE.out.below (hb12.trans (hbx.mono hb12.size))))
        rw [← HN.out] at CB
        have hbw := hb12.trans (hbx.mono hb12.size)
        rw [hpl] at CB ⊢
        clear hpl hown HO hbx HP
        go_wp2_with fail
        refine CB.out.mono ?_
        cases R with
        | none =>
          unfold ListRet bigV
          rintro e w3 ⟨rfl, hb3⟩
          go_wp2_with fail
          go_ret2
          exact ⟨rfl, hbw.trans (hb3.mono hbw.size)⟩
        | some r =>
          unfold ListRet
          rintro e w3 ⟨v3, rfl, ho3, hb3⟩
          go_wp2_with fail
          go_ret2
          exact ⟨v3, rfl, ho3.mono hbw.size, hbw.trans (hb3.mono hbw.size)⟩
end Go.Proofs.YtlhpflilpdceiaaGreatDoor

/- The walk over lists.Join: lists joined one behind the other. Bounds on the lengths. -/
set_option linter.unusedVariables false
set_option linter.unusedSimpArgs false
namespace Go.Proofs.YtlhpflilpdceiaaGreatDoor
open Go.RowKit

/-- A list that is not great. -/
def Sml (l : List (List UInt8)) : Prop := l.length ≤ 1000000 ∧ ∀ s ∈ l, s.length ≤ 1000000
theorem Sml.some {l : List (List UInt8)} (h : Sml l) : Sml (someL l) := ⟨someL_le l h.1, someL_small h.2⟩
theorem Sml.of_big {l : List (List UInt8)} (h : bigL l = false) : Sml l := ⟨by have := (bigL_false.1 h).1; omega, fun s hs => by have := (bigL_false.1 h).2 s hs; omega⟩
theorem joinL_cons {ls : List (List (List UInt8))} (h : 0 < ls.length) : joinL ls = joinGo (ls.drop 1) (someL ls[0]) := by
  cases ls with
  | nil => simp at h
  | cons x t => rfl
theorem joinGo_at {ls : List (List (List UInt8))} {k : Nat} (h : k < ls.length) (acc : List (List UInt8)) : joinGo (ls.drop k) acc = match twoL acc ls[k] with
    | none => none
    | some r => joinGo (ls.drop (k + 1)) r := by
  rw [List.drop_eq_getElem_cons h, joinGo]
  cases twoL acc ls[k] <;> rfl
set_option maxRecDepth 100000 in
set_option maxHeartbeats 2000000 in
theorem join_any (A0 : Option Addr) (c0 : Nat) (ls : List (List (List UInt8))) (a : Addr) (w : World) (hK : KdS w A0 ls) (hn : ls.length ≤ 1000000) (hc : ls.length ≤ c0) (hcm : c0 ≤ maxLen) (hl : ∀ x ∈ ls, Sml x) (hE : BigW w a) :
    Calls Tryz.prog 8 #[.slice A0 ls.length c0] w (ListRet (joinL ls) a w) := by
  obtain ⟨R, hR⟩ : ∃ R, R = joinL ls := ⟨_, rfl⟩
  rw [← hR]
  have HR := Lib.hid hR
  clear hR
  obtain ⟨n, hn0⟩ : ∃ n, n = ls.length := ⟨_, rfl⟩
  rw [← hn0] at hn hc ⊢
  have HN := Lib.hid hn0
  have HL := Lib.hid hl
  have HE := Lib.hid hE
  clear hl hE
  by_cases h0 : n = 0
  · have h00 : ls = [] := List.eq_nil_of_length_eq_zero (by omega)
    have HR2 := Lib.hid (show R = some [[]] by rw [HR.out, h00]; rfl)
    subst h0
    clear HR hn0 h00
    go_enter Tryz.func8, Tryz.ntmps8
    go_wp2_with fail
    go_ret2
    obtain rfl := HR2.out
    exact ⟨_, rfl, World.ownsRow_lit w #[.string ByteArray.empty] 1 (Nat.le_refl _) (by decide) rfl, (Below.refl _ _).alloc (Nat.le_refl _) _⟩
  have hq0 : ((n : Int) == 0) = false := by rw [beq_eq_false_iff_ne]; omega
  have hpos : 0 < ls.length := by omega
  obtain ⟨b, o, rfl⟩ := hK.addr hpos
  obtain ⟨v0, cv0, hs0⟩ := hK.at_ hpos
  rw [Nat.add_zero] at cv0
  have hL0 := HL.out _ (List.getElem_mem hpos)
  have HR2 := Lib.hid (show R = joinGo (ls.drop 1) (someL ls[0]) by rw [HR.out, joinL_cons hpos])
  generalize ls[0] = x0 at *
  have SC := Lib.hid (some_any v0 x0 w hs0 hL0.1)
  have HX0 := Lib.hid hL0.some
  generalize someL x0 = y0 at *
  have hn1 : 1 ≤ n := by omega
  have hc1 : 1 ≤ c0 := by omega
  clear hs0 hL0 hn0 HR hpos h0
  go_enter Tryz.func8, Tryz.ntmps8
  go_wp2_with fail
  refine SC.out.mono ?_
  rintro e w1 ⟨v1, rfl, hs1, hb1⟩
  clear SC cv0
  have HT := Lib.hid (show ∀ x ∈ ls.drop 1, Sml x from fun x hx => HL.out x (List.mem_of_mem_drop hx))
  have HM := Lib.hid (show n - 1 = (ls.drop 1).length by rw [List.length_drop, ← HN.out])
  have hKd : KdS w (some ⟨b, if c0 = 1 then o else o + 1, none⟩) (ls.drop 1) := by
    by_cases hcc : c0 = 1
    · rw [if_pos hcc, List.drop_of_length_le (by rw [← HN.out]; omega)]
      exact ⟨[], RdL.nil _ _ _ _, AllS.nil _⟩
    · rw [if_neg hcc]
      exact hK.drop 1
  generalize ls.drop 1 = ts at *
  clear HL HN hK
  by_cases hcc : c0 = 1
  · rw [if_pos hcc] at hKd
    have hm0 : n - 1 ≤ 0 := by omega
    go_upto_region 6 with (fail)
    clear hcc hc hc1
    have hm := (show n - 1 ≤ 1000000 by omega)
    generalize n - 1 = m at *
    go_loopw [4, 5, 19] (fun v e i wr => ∃ (k : Nat) (acc : List (List UInt8)), k ≤ m ∧ i = .int .i64 k ∧ e = .nilIface ∧ SlS wr v acc ∧ Below w.heap.size w wr ∧ Hid (R = joinGo (ts.drop k) acc) ∧ Hid (Sml acc))
      (fun _ _ i _ => m - (intOf i).toNat)
    case atStart => exact ⟨0, y0, Nat.zero_le _, rfl, rfl, hs1, hb1, HR2, HX0⟩
    case round =>
      clear hs1 hb1 HR2 HX0
      obtain ⟨k, acc, hk, rfl, rfl, hsa, hbw, H, HX0⟩ := hrel
      by_cases hlt : k < m
      · have hkL : k < ts.length := by rw [← HM.out]; exact hlt
        obtain ⟨v, cv, hsv⟩ := (hKd.below hbw).at_ hkL
        have hx := HT.out _ (List.getElem_mem hkL)
        have HJ := Lib.hid (show R = match twoL acc ts[k] with | none => none | some r => joinGo (ts.drop (k + 1)) r by rw [H.out, joinGo_at hkL])
        generalize ts[k] = x at *
        obtain ⟨A, c, rfl, _⟩ := (show ∃ A c, v = .slice A x.length c ∧ True from let ⟨A, c, h, _⟩ := hsv; ⟨A, c, h, trivial⟩)
        obtain ⟨A', c', rfl, _⟩ := (show ∃ A' c', u4 = .slice A' acc.length c' ∧ True from let ⟨A, c, h, _⟩ := hsa; ⟨A, c, h, trivial⟩)
        have CT := Lib.hid (two_any _ _ acc x a wr hsa hsv HX0.out.1 hx.1 HX0.out.2 hx.2 (HE.out.below hbw))
        obtain ⟨T, hT⟩ : ∃ T, T = twoL acc x := ⟨_, rfl⟩
        rw [← hT] at CT HJ
        have HB := Lib.hid (show ∀ r, T = some r → bigL r = false from fun r hr => (two_some (hT ▸ hr)).2)
        generalize acc.length = na at *
        generalize x.length = nx at *
        clear hT H hsa hsv hx hkL
        go_wp2_with fail
        refine CT.out.mono ?_
        cases T with
        | none =>
          unfold ListRet bigV
          rintro e w3 ⟨rfl, hb3⟩
          have HJ2 := Lib.hid (show R = none from HJ.out)
          clear HJ HB
          go_wp2_with fail
          go_ret2
          obtain rfl := HJ2.out
          exact ⟨rfl, hbw.trans (hb3.mono hbw.size)⟩
        | some r =>
          unfold ListRet
          rintro e w3 ⟨v3, rfl, ho3, hb3⟩
          have HJ2 := Lib.hid (show R = joinGo (ts.drop (k + 1)) r from HJ.out)
          have HS := Lib.hid (Sml.of_big (HB.out r rfl))
          have hs3 := ho3.rd
          have hb4 := hbw.trans (hb3.mono hbw.size)
          clear HJ HB ho3 hb3 cv
          go_wp2_with fail
          go_roundw
          case rel => exact ⟨k + 1, r, by omega, by go_num, rfl, hs3, hb4, HJ2, HS⟩
          case measure => simp [intOf]; omega
      · obtain rfl : m = k := by omega
        have HF := Lib.hid (show R = boundL acc by rw [H.out, HM.out, List.drop_length, joinGo])
        obtain ⟨A', c', rfl, _⟩ := (show ∃ A' c', u4 = .slice A' acc.length c' ∧ True from let ⟨A, c, h, _⟩ := hsa; ⟨A, c, h, trivial⟩)
        have CB := Lib.hid (bound_any _ acc a wr hsa HX0.out.1 (HE.out.below hbw))
        rw [← HF.out] at CB
        clear H hlt HF
        go_wp2_with fail
        refine CB.out.mono ?_
        cases R with
        | none =>
          unfold ListRet bigV
          rintro e w2 ⟨rfl, hb2⟩
          go_wp2_with fail
          go_ret2
          exact ⟨rfl, hbw.trans (hb2.mono hbw.size)⟩
        | some r =>
          unfold ListRet
          rintro e w2 ⟨v2, rfl, ho2, hb2⟩
          go_wp2_with fail
          go_ret2
          exact ⟨v2, rfl, ho2.mono hbw.size, hbw.trans (hb2.mono hbw.size)⟩
  · rw [if_neg hcc] at hKd
    go_upto_region 6 with (fail)
    clear hcc hc hc1
    have hm := (show n - 1 ≤ 1000000 by omega)
    generalize n - 1 = m at *
    go_loopw [4, 5, 19] (fun v e i wr => ∃ (k : Nat) (acc : List (List UInt8)), k ≤ m ∧ i = .int .i64 k ∧ e = .nilIface ∧ SlS wr v acc ∧ Below w.heap.size w wr ∧ Hid (R = joinGo (ts.drop k) acc) ∧ Hid (Sml acc))
      (fun _ _ i _ => m - (intOf i).toNat)
    case atStart => exact ⟨0, y0, Nat.zero_le _, rfl, rfl, hs1, hb1, HR2, HX0⟩
    case round =>
      clear hs1 hb1 HR2 HX0
      obtain ⟨k, acc, hk, rfl, rfl, hsa, hbw, H, HX0⟩ := hrel
      by_cases hlt : k < m
      · have hkL : k < ts.length := by rw [← HM.out]; exact hlt
        obtain ⟨v, cv, hsv⟩ := (hKd.below hbw).at_ hkL
        have hx := HT.out _ (List.getElem_mem hkL)
        have HJ := Lib.hid (show R = match twoL acc ts[k] with | none => none | some r => joinGo (ts.drop (k + 1)) r by rw [H.out, joinGo_at hkL])
        generalize ts[k] = x at *
        obtain ⟨A, c, rfl, _⟩ := (show ∃ A c, v = .slice A x.length c ∧ True from let ⟨A, c, h, _⟩ := hsv; ⟨A, c, h, trivial⟩)
        obtain ⟨A', c', rfl, _⟩ := (show ∃ A' c', u4 = .slice A' acc.length c' ∧ True from let ⟨A, c, h, _⟩ := hsa; ⟨A, c, h, trivial⟩)
        have CT := Lib.hid (two_any _ _ acc x a wr hsa hsv HX0.out.1 hx.1 HX0.out.2 hx.2 (HE.out.below hbw))
        obtain ⟨T, hT⟩ : ∃ T, T = twoL acc x := ⟨_, rfl⟩
        rw [← hT] at CT HJ
        have HB := Lib.hid (show ∀ r, T = some r → bigL r = false from fun r hr => (two_some (hT ▸ hr)).2)
        generalize acc.length = na at *
        generalize x.length = nx at *
        clear hT H hsa hsv hx hkL
        go_wp2_with fail
        refine CT.out.mono ?_
        cases T with
        | none =>
          unfold ListRet bigV
          rintro e w3 ⟨rfl, hb3⟩
          have HJ2 := Lib.hid (show R = none from HJ.out)
          clear HJ HB
          go_wp2_with fail
          go_ret2
          obtain rfl := HJ2.out
          exact ⟨rfl, hbw.trans (hb3.mono hbw.size)⟩
        | some r =>
          unfold ListRet
          rintro e w3 ⟨v3, rfl, ho3, hb3⟩
          have HJ2 := Lib.hid (show R = joinGo (ts.drop (k + 1)) r from HJ.out)
          have HS := Lib.hid (Sml.of_big (HB.out r rfl))
          have hs3 := ho3.rd
          have hb4 := hbw.trans (hb3.mono hbw.size)
          clear HJ HB ho3 hb3 cv
          go_wp2_with fail
          go_roundw
          case rel => exact ⟨k + 1, r, by omega, by go_num, rfl, hs3, hb4, HJ2, HS⟩
          case measure => simp [intOf]; omega
      · obtain rfl : m = k := by omega
        have HF := Lib.hid (show R = boundL acc by rw [H.out, HM.out, List.drop_length, joinGo])
        obtain ⟨A', c', rfl, _⟩ := (show ∃ A' c', u4 = .slice A' acc.length c' ∧ True from let ⟨A, c, h, _⟩ := hsa; ⟨A, c, h, trivial⟩)
        have CB := Lib.hid (bound_any _ acc a wr hsa HX0.out.1 (HE.out.below hbw))
        rw [← HF.out] at CB
        clear H hlt HF
        go_wp2_with fail
        refine CB.out.mono ?_
        cases R with
        | none =>
          unfold ListRet bigV
          rintro e w2 ⟨rfl, hb2⟩
          go_wp2_with fail
          go_ret2
          exact ⟨rfl, hbw.trans (hb2.mono hbw.size)⟩
        | some r =>
          unfold ListRet
          rintro e w2 ⟨v2, rfl, ho2, hb2⟩
          go_wp2_with fail
          go_ret2
          exact ⟨v2, rfl, ho2.mono hbw.size, hbw.trans (hb2.mono hbw.size)⟩
end Go.Proofs.YtlhpflilpdceiaaGreatDoor

/- The walk over lists.each: what becomes of each item, one behind the other, for any function that is called. Bounds on the lengths. -/
set_option linter.unusedVariables false
set_option linter.unusedSimpArgs false
namespace Go.Proofs.YtlhpflilpdceiaaGreatDoor
open Go.RowKit

set_option maxRecDepth 100000 in
set_option maxHeartbeats 2000000 in
theorem each_any (fid : Nat) (cs : Array Value) (f : List UInt8 → List (List UInt8)) (v0 : Value) (L : List (List UInt8)) (a : Addr) (w : World) (hv : SlS w v0 L) (hL : L.length ≤ 1000000)
    (hf : ∀ s ∈ L, ∀ W, Below w.heap.size w W → Calls Tryz.prog fid (#[.string ⟨s.toArray⟩] ++ cs) W (SlRet (f s) W)) (hlen : ∀ s ∈ L, (f s).length ≤ 1000000) (hE : BigW w a) (hent : ∀ args W, (callFunc fid args).run Tryz.prog W = .ok (.enter fid args) W) :
    Calls Tryz.prog 36 #[v0, .func (.func fid) #[] cs] w (ListRet (eachL f L) a w) := by
  obtain ⟨i0, hi, hz0, hz1, hz2⟩ := info_parts infoStr
  obtain ⟨R, hR⟩ : ∃ R, R = eachL f L := ⟨_, rfl⟩
  rw [← hR]
  have HR0 := Lib.hid (show R = eachGo f (L.drop 0) [] from hR)
  clear hR
  obtain ⟨A0, c0, rfl, hrd, _⟩ := hv
  obtain ⟨n, hn0⟩ : ∃ n, n = L.length := ⟨_, rfl⟩
  rw [← hn0] at hL ⊢
  have HN := Lib.hid hn0
  have HF := Lib.hid hf
  have HLEN := Lib.hid hlen
  have HE := Lib.hid hE
  clear hn0 hf hlen
  unfold BigW bigV at hE
  go_enter Tryz.func36, Tryz.ntmps36
  go_wp2_with fail
  go_loopw [6, 11] (fun v i wr => ∃ (k : Nat) (acc : List (List UInt8)), k ≤ n ∧ i = .int .i64 k ∧ acc.length ≤ 100 ∧ OwnS wr w.heap.size v acc ∧ Below w.heap.size w wr ∧ Hid (R = eachGo f (L.drop k) acc))
    (fun _ i _ => n - (intOf i).toNat)
  case atStart => exact ⟨0, [], Nat.zero_le _, rfl, Nat.zero_le _, OwnS.nil _ _, Below.refl _ _, HR0⟩
  case round =>
    clear HR0
    obtain ⟨k, acc, hk, rfl, hak, hown, hbw, H⟩ := hrel
    by_cases hlt : k < n
    · have hkL : k < L.length := by rw [← HN.out]; exact hlt
      obtain ⟨b, o, rfl⟩ := hrd.ats hkL
      have cx := (hrd.below hbw).strs hkL
      have hfx := HF.out _ (List.getElem_mem hkL)
      have hlx := HLEN.out _ (List.getElem_mem hkL)
      have HD := Lib.hid (List.drop_eq_getElem_cons hkL)
      obtain ⟨x, hx⟩ : ∃ x, x = L[k] := ⟨_, rfl⟩
      rw [← hx] at cx hfx hlx HD
      clear hx hkL
      have HG := Lib.hid (show R = if 100 < (acc ++ f x).length then none else eachGo f (L.drop (k + 1)) (acc ++ f x) by rw [H.out, HD.out, eachGo])
      have CF := Lib.hid (hfx wr hbw)
      generalize f x = y at *
      clear H HD hfx
      go_wp2_with fail
      refine CF.out.mono ?_
      rintro e w2 ⟨v2, rfl, hs2, hb2⟩
      obtain ⟨A1, c1, rfl, hrx, hAx, hxc, hxm⟩ := hs2
      replace hbw := hbw.trans (hb2.mono hbw.size)
      replace hown := hown.below hb2
      clear hb2 CF cx
      obtain ⟨na, hna⟩ : ∃ na, na = acc.length := ⟨_, rfl⟩
      obtain ⟨nx, hnx⟩ : ∃ nx, nx = y.length := ⟨_, rfl⟩
      have HNA := Lib.hid hna
      have HNX := Lib.hid hnx
      unfold OwnS at hown
      rw [← hna] at hak hown
      rw [← hnx] at hlx hxc ⊢
      clear hna hnx
      go_upto_region 6 with (at_builtin; refine wpList_pushAll (enc := strc) rfl _ _ _ rfl Tryz.underlying23 hi hz0 hz1 hz2 rfl (by decide) hown rfl rfl HNX.out hrx hAx trivial strc_len strc_one (by omega) (by decide) hbw.size ?_; intro A2 c2 w2 ho2 hb2 hoo2)
      have hlen : (acc ++ y).length = na + nx := by rw [List.length_append, ← HNA.out, ← HNX.out]
      have HO := Lib.hid (show OwnS w2 w.heap.size (.slice A2 (na + nx) c2) (acc ++ y) by unfold OwnS; rw [hlen, List.flatMap_append]; exact ho2)
      have HLEN := Lib.hid hlen
      have hbz := hbw.trans hb2
      have hE2 := cell_keep hbz hE
      clear hown ho2 hoo2 hb2 hrx hlen hAx
      generalize na + nx = nn at *
      by_cases hbig : 100 < nn
      · have HR := Lib.hid (show R = none by rw [HG.out, if_pos (by rw [HLEN.out]; exact hbig)])
        have l0 := Later.cell hE2
        go_upto_region 7 with (fail)
        refine wp_region_eq (by kernel_rfl) (by kernel_rfl) ?_
        apply EqGo.run
        focus
          kernel_rfl
        focus
          intro x K hK
          go_wp2_with fail
          first | exact hK x (Below.refl _ _) | exact Below.refl _ _
        simp only [Act.put, List.setIfInBounds_toArray, List.set_cons_succ, List.set_cons_zero]
        apply EqGo.run
        focus
          kernel_rfl
        focus
          intro x K hK
          go_wp2_with fail
          first | exact hK x (Below.refl _ _) | exact Below.refl _ _
        simp only [Act.put, List.setIfInBounds_toArray, List.set_cons_succ, List.set_cons_zero]
        apply EqGo.run
        focus
          kernel_rfl
        focus
          intro x K hK
          go_wp2_with fail
          first | exact hK x (Below.refl _ _) | exact Below.refl _ _
        simp only [Act.put, List.setIfInBounds_toArray, List.set_cons_succ, List.set_cons_zero]
        intro xq
        have hby := hbz.trans (xq.below.mono hbz.size)
        go_wp2_with fail
        go_ret2
        obtain rfl := HR.out
        exact ⟨rfl, hby⟩
      · have HR := Lib.hid (show R = eachGo f (L.drop (k + 1)) (acc ++ y) by rw [HG.out, if_neg (by rw [HLEN.out]; exact hbig)])
        go_wp2_with fail
        go_roundw
        case rel => exact ⟨k + 1, acc ++ y, by omega, by go_num, by rw [HLEN.out]; omega, HO.out, hbz, HR⟩
        case measure => simp [intOf]; omega
    · obtain rfl : n = k := by omega
      have HFF := Lib.hid (show R = boundL acc by rw [H.out, HN.out, List.drop_length, eachGo])
      have hra := hown.rd
      obtain ⟨A, c, rfl, _⟩ := hra
      have CB := Lib.hid (bound_any _ acc a wr hown.rd (by omega) (HE.out.below hbw))
      rw [← HFF.out] at CB
      clear H hlt HFF
      go_wp2_with fail
      refine CB.out.mono ?_
      cases R with
      | none =>
        unfold ListRet bigV
        rintro e w2 ⟨rfl, hb2⟩
        go_wp2_with fail
        go_ret2
        exact ⟨rfl, hbw.trans (hb2.mono hbw.size)⟩
      | some r =>
        unfold ListRet
        rintro e w2 ⟨v2, rfl, ho2, hb2⟩
        go_wp2_with fail
        go_ret2
        exact ⟨v2, rfl, ho2.mono hbw.size, hbw.trans (hb2.mono hbw.size)⟩
end Go.Proofs.YtlhpflilpdceiaaGreatDoor
