/- PatternSets: for every three bytes the law answers true. No condition. -/
import Derived.Test.YtjhgljfmheopmaaPatF
import Derived.Test.YtjhgljfmheopmaaSetsL
import Derived.Test.YtjhgljfmheopmaaRel
import Derived.Deep.DeepCutAuto
import Derived.Deep.DeepMust
import Derived.OpenShut
set_option linter.unusedVariables false
set_option linter.unusedSimpArgs false
namespace Go.Proofs.Ytjhgljfmheopmaa
open Go.RowKit

/-- a text of one byte out of a slice of one byte -/
noncomputable def conv1 (g : Nat) (W : World) : Option Value → Result Value
  | some (.int .u8 n) => .ok (.string { data := #[UInt8.ofNat n.toNat] }) W
  | _ => (convert 24 9 (.slice (some ⟨g, 0, none⟩) 1 1)).run Try.prog W
theorem run_conv1 (W : World) (g : Nat) : (convert 24 9 (.slice (some ⟨g, 0, none⟩) 1 1)).run Try.prog W = conv1 g W (W.cell? ⟨g, 0, none⟩) := by
  cases h : W.cell? ⟨g, 0, none⟩ with
  | none => rfl
  | some v =>
    cases v with
    | int k n =>
      cases k with
      | u8 =>
        simp only [conv1]
        exact run_convert_bytes_arg (P := Try.prog) W 24 5 Try.underlying24 Try.underlying5 g 0 1 1 [n] rfl (fun i hi => by
          have hi0 : i = 0 := by omega
          subst hi0
          simpa using h) 9 Try.underlying9
      | _ => rfl
    | _ => rfl
theorem conv1_some (W : World) (g : Nat) (n : Int) : conv1 g W (some (.int .u8 n)) = .ok (.string { data := #[UInt8.ofNat n.toNat] }) W := rfl

/-- a slice of one byte, which holds -/
def oneT (n : Nat) : TT where
  pu v := ∃ g, v = .slice (some ⟨g, 0, none⟩) 1 1
  ne := ⟨_, 0, rfl⟩
  ho v x := ∀ g, v = .slice (some ⟨g, 0, none⟩) 1 1 → x.cell? ⟨g, 0, none⟩ = some (.int .u8 n)
  st v x x' h hb g hg := cell_keep hb (h g hg)

theorem escT_len (a : UInt8) : (escT a).length ≤ 2 := by unfold escT; split <;> simp


set_option maxHeartbeats 4000000 in
set_option maxRecDepth 100000 in
theorem sets_try (a b c : UInt8) (turned : Bool) (w : World) :
    Calls Try.prog 3 #[.int .u8 a.toNat, .int .u8 b.toNat, .int .u8 c.toNat, .bool turned] w fun e w' => e = .returned (.bool true) ∧ Below w.heap.size w w' := by
  have hA := escT_len a
  have hB := escT_len b
  obtain ⟨TA, hTA⟩ : ∃ TA, TA = escT a := ⟨_, rfl⟩
  obtain ⟨TB, hTB⟩ : ∃ TB, TB = escT b := ⟨_, rfl⟩
  rw [← hTA] at hA
  rw [← hTB] at hB
  have HTA := Lib.hid hTA
  have HTB := Lib.hid hTB
  clear hTA hTB
  have CA := Lib.hid (show ∀ W, Calls Try.prog 10 #[.string { data := #[a] }] W (Ret W (.string ⟨TA.toArray⟩)) from fun W => (escape_any ⟨#[a]⟩ W (by simp [ByteArray.size])).mono fun _ _ h => h.eq (str_eq (by rw [HTA.out]; exact escT_eq a)))
  have CB := Lib.hid (show ∀ W, Calls Try.prog 10 #[.string { data := #[b] }] W (Ret W (.string ⟨TB.toArray⟩)) from fun W => (escape_any ⟨#[b]⟩ W (by simp [ByteArray.size])).mono fun _ _ h => h.eq (str_eq (by rw [HTB.out]; exact escT_eq b)))
  go_enter Try.func3, Try.ntmps3
  go_wp2_with fail
  refine (first_any _).mono ?_
  rintro e w1 ⟨rfl, hb1⟩
  go_wp2_with fail
  obtain ⟨RA, hRA⟩ : ∃ RA : List UInt8, RA = TA ++ (45 :: (TB ++ [93])) := ⟨_, rfl⟩
  have HRA := Lib.hid hRA
  obtain ⟨RB, hRB⟩ : ∃ RB : List UInt8, RB = TA ++ (TB ++ [93]) := ⟨_, rfl⟩
  have HRB := Lib.hid hRB
  have hla : RA.length ≤ 6 := by rw [hRA]; simp only [List.length_append, List.length_cons, List.length_nil]; omega
  have hlb : RB.length ≤ 6 := by rw [hRB]; simp only [List.length_append, List.length_cons, List.length_nil]; omega
  refine wp_region_rel [eqT (.int .u8 a.toNat), oneT a.toNat, eqT (.string { data := #[a] }), eqT (.string ⟨TA.toArray⟩), eqT (.string ({ data := #[91] } ++ { data := TA.toArray })), eqT (.string ({ data := #[91] } ++ { data := TA.toArray } ++ { data := #[45] })), eqT (.int .u8 b.toNat), oneT b.toNat, eqT (.string { data := #[b] }), eqT (.string ⟨TB.toArray⟩), eqT (.string ({ data := #[91] } ++ { data := TA.toArray } ++ { data := #[45] } ++ { data := TB.toArray })), eqT (.string ⟨(91 :: RA).toArray⟩), eqT (.string ⟨(91 :: RA).toArray⟩)] (by kernel_rfl) (by kernel_rfl) rfl ?_
  clear hRA hRB
  refine ⟨?_, ?_⟩
  focus
    unfold opGoal
    rw [if_pos (by kernel_rfl)]
    intro x hb hd K hk
    clear hd
    go_wp2_with fail
    exact hk _ _ rfl trivial (Below.refl _ _)
  rintro _ rfl
  simp only [Act.put, List.setIfInBounds_toArray, List.set_cons_succ, List.set_cons_zero]
  refine ⟨?_, ?_⟩
  focus
    unfold opGoal
    rw [if_pos (by kernel_rfl)]
    intro x hb hd K hk
    clear hd
    go_wp2_with fail
    refine hk _ _ ⟨_, rfl⟩ ?_ (Below.alloc (Below.refl _ _) (Nat.le_refl _) _)
    intro g hg
    injection hg with hg
    injection hg with hg
    injection hg with hg
    subst hg
    exact new_cell _ _ _ 0
  rintro _ ⟨g, rfl⟩
  simp only [Act.put, List.setIfInBounds_toArray, List.set_cons_succ, List.set_cons_zero]
  refine ⟨?_, ?_⟩
  focus
    unfold opGoal
    rw [if_pos (by kernel_rfl)]
    intro x hb hd K hk
    have hcell := hd _ (List.mem_cons_self ..) rfl _ _ rfl rfl g rfl
    clear hd
    have hc1 := run_conv1
    have hc2 := conv1_some
    go_wp2_with fail
    exact hk _ _ rfl trivial (Below.refl _ _)
  rintro _ rfl
  simp only [Act.put, List.setIfInBounds_toArray, List.set_cons_succ, List.set_cons_zero]
  refine ⟨?_, ?_⟩
  focus
    unfold opGoal
    rw [if_pos (by kernel_rfl)]
    intro x hb hd K hk
    clear hd
    go_wp2_with fail
    refine (Hid.out CA x).mono ?_
    rintro e x' ⟨rfl, hb'⟩
    exact hk _ _ rfl trivial hb'
  rintro _ rfl
  simp only [Act.put, List.setIfInBounds_toArray, List.set_cons_succ, List.set_cons_zero]
  refine ⟨?_, ?_⟩
  focus
    unfold opGoal
    rw [if_pos (by kernel_rfl)]
    intro x hb hd K hk
    clear hd
    go_wp2_with fail
    exact hk _ _ rfl trivial (Below.refl _ _)
  rintro _ rfl
  simp only [Act.put, List.setIfInBounds_toArray, List.set_cons_succ, List.set_cons_zero]
  refine ⟨?_, ?_⟩
  focus
    unfold opGoal
    rw [if_pos (by kernel_rfl)]
    intro x hb hd K hk
    clear hd
    go_wp2_with fail
    exact hk _ _ rfl trivial (Below.refl _ _)
  rintro _ rfl
  simp only [Act.put, List.setIfInBounds_toArray, List.set_cons_succ, List.set_cons_zero]
  refine ⟨?_, ?_⟩
  focus
    unfold opGoal
    rw [if_pos (by kernel_rfl)]
    intro x hb hd K hk
    clear hd
    go_wp2_with fail
    exact hk _ _ rfl trivial (Below.refl _ _)
  rintro _ rfl
  simp only [Act.put, List.setIfInBounds_toArray, List.set_cons_succ, List.set_cons_zero]
  refine ⟨?_, ?_⟩
  focus
    unfold opGoal
    rw [if_pos (by kernel_rfl)]
    intro x hb hd K hk
    clear hd
    go_wp2_with fail
    refine hk _ _ ⟨_, rfl⟩ ?_ (Below.alloc (Below.refl _ _) (Nat.le_refl _) _)
    intro g hg
    injection hg with hg
    injection hg with hg
    injection hg with hg
    subst hg
    exact new_cell _ _ _ 0
  rintro _ ⟨g, rfl⟩
  simp only [Act.put, List.setIfInBounds_toArray, List.set_cons_succ, List.set_cons_zero]
  refine ⟨?_, ?_⟩
  focus
    unfold opGoal
    rw [if_pos (by kernel_rfl)]
    intro x hb hd K hk
    have hcell := hd _ (List.mem_cons_self ..) rfl _ _ rfl rfl g rfl
    clear hd
    have hc1 := run_conv1
    have hc2 := conv1_some
    go_wp2_with fail
    exact hk _ _ rfl trivial (Below.refl _ _)
  rintro _ rfl
  simp only [Act.put, List.setIfInBounds_toArray, List.set_cons_succ, List.set_cons_zero]
  refine ⟨?_, ?_⟩
  focus
    unfold opGoal
    rw [if_pos (by kernel_rfl)]
    intro x hb hd K hk
    clear hd
    go_wp2_with fail
    refine (Hid.out CB x).mono ?_
    rintro e x' ⟨rfl, hb'⟩
    exact hk _ _ rfl trivial hb'
  rintro _ rfl
  simp only [Act.put, List.setIfInBounds_toArray, List.set_cons_succ, List.set_cons_zero]
  refine ⟨?_, ?_⟩
  focus
    unfold opGoal
    rw [if_pos (by kernel_rfl)]
    intro x hb hd K hk
    clear hd
    go_wp2_with fail
    exact hk _ _ rfl trivial (Below.refl _ _)
  rintro _ rfl
  simp only [Act.put, List.setIfInBounds_toArray, List.set_cons_succ, List.set_cons_zero]
  refine ⟨?_, ?_⟩
  · unfold opGoal
    rw [if_pos (by kernel_rfl)]
    intro x hb hd K hk
    clear hd
    go_wp2_with fail
    exact hk _ _ (congrArg Value.string (ByteArray.ext (by simp [HRA.out]))) trivial (Below.refl _ _)
  rintro _ rfl
  simp only [Act.put, List.setIfInBounds_toArray, List.set_cons_succ, List.set_cons_zero]
  refine ⟨?_, ?_⟩
  focus
    unfold opGoal
    rw [if_pos (by kernel_rfl)]
    intro x hb hd K hk
    clear hd
    go_wp2_with fail
    exact hk _ _ rfl trivial (Below.refl _ _)
  rintro _ rfl
  simp only [Act.put, List.setIfInBounds_toArray, List.set_cons_succ, List.set_cons_zero]
  intro w2 hb2 hd2
  clear hd2
  go_wp2_with fail
  refine wp_region_rel [eqT (.int .u8 a.toNat), oneT a.toNat, eqT (.string { data := #[a] }), eqT (.string ⟨TA.toArray⟩), eqT (.string ({ data := #[91] } ++ { data := TA.toArray })), eqT (.int .u8 b.toNat), oneT b.toNat, eqT (.string { data := #[b] }), eqT (.string ⟨TB.toArray⟩), eqT (.string ({ data := #[91] } ++ { data := TA.toArray } ++ { data := TB.toArray })), eqT (.string ⟨(91 :: RB).toArray⟩), eqT (.string ⟨(91 :: RB).toArray⟩)] (by kernel_rfl) (by kernel_rfl) rfl ?_
  refine ⟨?_, ?_⟩
  focus
    unfold opGoal
    rw [if_pos (by kernel_rfl)]
    intro x hb hd K hk
    clear hd
    go_wp2_with fail
    exact hk _ _ rfl trivial (Below.refl _ _)
  rintro _ rfl
  simp only [Act.put, List.setIfInBounds_toArray, List.set_cons_succ, List.set_cons_zero]
  refine ⟨?_, ?_⟩
  focus
    unfold opGoal
    rw [if_pos (by kernel_rfl)]
    intro x hb hd K hk
    clear hd
    go_wp2_with fail
    refine hk _ _ ⟨_, rfl⟩ ?_ (Below.alloc (Below.refl _ _) (Nat.le_refl _) _)
    intro g hg
    injection hg with hg
    injection hg with hg
    injection hg with hg
    subst hg
    exact new_cell _ _ _ 0
  rintro _ ⟨g, rfl⟩
  simp only [Act.put, List.setIfInBounds_toArray, List.set_cons_succ, List.set_cons_zero]
  refine ⟨?_, ?_⟩
  focus
    unfold opGoal
    rw [if_pos (by kernel_rfl)]
    intro x hb hd K hk
    have hcell := hd _ (List.mem_cons_self ..) rfl _ _ rfl rfl g rfl
    clear hd
    have hc1 := run_conv1
    have hc2 := conv1_some
    go_wp2_with fail
    exact hk _ _ rfl trivial (Below.refl _ _)
  rintro _ rfl
  simp only [Act.put, List.setIfInBounds_toArray, List.set_cons_succ, List.set_cons_zero]
  refine ⟨?_, ?_⟩
  focus
    unfold opGoal
    rw [if_pos (by kernel_rfl)]
    intro x hb hd K hk
    clear hd
    go_wp2_with fail
    refine (Hid.out CA x).mono ?_
    rintro e x' ⟨rfl, hb'⟩
    exact hk _ _ rfl trivial hb'
  rintro _ rfl
  simp only [Act.put, List.setIfInBounds_toArray, List.set_cons_succ, List.set_cons_zero]
  refine ⟨?_, ?_⟩
  focus
    unfold opGoal
    rw [if_pos (by kernel_rfl)]
    intro x hb hd K hk
    clear hd
    go_wp2_with fail
    exact hk _ _ rfl trivial (Below.refl _ _)
  rintro _ rfl
  simp only [Act.put, List.setIfInBounds_toArray, List.set_cons_succ, List.set_cons_zero]
  refine ⟨?_, ?_⟩
  focus
    unfold opGoal
    rw [if_pos (by kernel_rfl)]
    intro x hb hd K hk
    clear hd
    go_wp2_with fail
    exact hk _ _ rfl trivial (Below.refl _ _)
  rintro _ rfl
  simp only [Act.put, List.setIfInBounds_toArray, List.set_cons_succ, List.set_cons_zero]
  refine ⟨?_, ?_⟩
  focus
    unfold opGoal
    rw [if_pos (by kernel_rfl)]
    intro x hb hd K hk
    clear hd
    go_wp2_with fail
    refine hk _ _ ⟨_, rfl⟩ ?_ (Below.alloc (Below.refl _ _) (Nat.le_refl _) _)
    intro g hg
    injection hg with hg
    injection hg with hg
    injection hg with hg
    subst hg
    exact new_cell _ _ _ 0
  rintro _ ⟨g, rfl⟩
  simp only [Act.put, List.setIfInBounds_toArray, List.set_cons_succ, List.set_cons_zero]
  refine ⟨?_, ?_⟩
  focus
    unfold opGoal
    rw [if_pos (by kernel_rfl)]
    intro x hb hd K hk
    have hcell := hd _ (List.mem_cons_self ..) rfl _ _ rfl rfl g rfl
    clear hd
    have hc1 := run_conv1
    have hc2 := conv1_some
    go_wp2_with fail
    exact hk _ _ rfl trivial (Below.refl _ _)
  rintro _ rfl
  simp only [Act.put, List.setIfInBounds_toArray, List.set_cons_succ, List.set_cons_zero]
  refine ⟨?_, ?_⟩
  focus
    unfold opGoal
    rw [if_pos (by kernel_rfl)]
    intro x hb hd K hk
    clear hd
    go_wp2_with fail
    refine (Hid.out CB x).mono ?_
    rintro e x' ⟨rfl, hb'⟩
    exact hk _ _ rfl trivial hb'
  rintro _ rfl
  simp only [Act.put, List.setIfInBounds_toArray, List.set_cons_succ, List.set_cons_zero]
  refine ⟨?_, ?_⟩
  focus
    unfold opGoal
    rw [if_pos (by kernel_rfl)]
    intro x hb hd K hk
    clear hd
    go_wp2_with fail
    exact hk _ _ rfl trivial (Below.refl _ _)
  rintro _ rfl
  simp only [Act.put, List.setIfInBounds_toArray, List.set_cons_succ, List.set_cons_zero]
  refine ⟨?_, ?_⟩
  · unfold opGoal
    rw [if_pos (by kernel_rfl)]
    intro x hb hd K hk
    clear hd
    go_wp2_with fail
    exact hk _ _ (congrArg Value.string (ByteArray.ext (by simp [HRB.out]))) trivial (Below.refl _ _)
  rintro _ rfl
  simp only [Act.put, List.setIfInBounds_toArray, List.set_cons_succ, List.set_cons_zero]
  refine ⟨?_, ?_⟩
  focus
    unfold opGoal
    rw [if_pos (by kernel_rfl)]
    intro x hb hd K hk
    clear hd
    go_wp2_with fail
    exact hk _ _ rfl trivial (Below.refl _ _)
  rintro _ rfl
  simp only [Act.put, List.setIfInBounds_toArray, List.set_cons_succ, List.set_cons_zero]
  intro w3 hb3 hd3
  clear hd3
  have hb := hb1.trans ((hb2.mono hb1.size).trans (hb3.mono (Nat.le_trans hb1.size hb2.size)))
  clear hb1 hb2 hb3
  generalize hna : (a.toNat : Int) = na
  generalize hnb : (b.toNat : Int) = nb
  generalize hnc : (c.toNat : Int) = nc
  have HNA := Lib.hid hna
  have HNB := Lib.hid hnb
  have HNC := Lib.hid hnc
  clear hna hnb hnc
  by_cases h1 : na = 94
  · subst h1
    go_wp2_with fail
    go_ret
    exact ⟨rfl, hb⟩
  by_cases h2 : na = 45
  · subst h2
    go_wp2_with fail
    go_ret
    exact ⟨rfl, hb⟩
  by_cases h3 : nb = 45
  · subst h3
    go_wp2_with fail
    go_ret
    exact ⟨rfl, hb⟩
  by_cases h4 : nb = 94
  · subst h4
    go_wp2_with fail
    go_ret
    exact ⟨rfl, hb⟩
  have k1 : (na == 94) = false := by simp [h1]
  have k2 : (na == 45) = false := by simp [h2]
  have k3 : (nb == 45) = false := by simp [h3]
  have k4 : (nb == 94) = false := by simp [h4]
  go_upto_region 6 with (fail)
  have HG := Lib.hid (And.intro (And.intro h1 h2) (And.intro h3 h4))
  clear h1 h2 h3 h4 k1 k2 k3 k4
  go_cut [12] (fun v wx => v = .bool (decide (na ≤ nc) && decide (nc ≤ nb)) ∧ w3 = wx)
  case first =>
    by_cases h5 : na ≤ nc
    · go_wp2_with fail
      go_meet
      exact ⟨by simp [h5], rfl⟩
    · go_wp2_with fail
      go_meet
      exact ⟨congrArg Value.bool (by rw [decide_eq_false (by omega)]; rfl), rfl⟩
  case rest =>
  obtain ⟨rfl, rfl⟩ := hcut
  obtain ⟨gin, hgin⟩ : ∃ g, g = (decide (na ≤ nc) && decide (nc ≤ nb)) := ⟨_, rfl⟩
  rw [← hgin]
  have HI := Lib.hid hgin
  clear hgin
  go_upto_region 7 with (fail)
  go_cut [13] (fun v wx => v = .bool (decide (na = nc) || decide (nb = nc)) ∧ w3 = wx)
  case first =>
    by_cases h5 : na = nc
    · subst h5
      go_wp2_with fail
      go_meet
      exact ⟨by simp, rfl⟩
    · by_cases h6 : nb = nc
      · subst h6
        have h7 : ¬ nb = na := fun e => h5 e.symm
        go_wp2_with fail
        go_meet
        exact ⟨by simp [h5], rfl⟩
      · have h7 : ¬ nc = nb := fun e => h6 e.symm
        have h8 : ¬ nc = na := fun e => h5 e.symm
        go_wp2_with fail
        go_meet
        exact ⟨by simp [h5, h6, h7, h8], rfl⟩
  case rest =>
  obtain ⟨rfl, rfl⟩ := hcut
  obtain ⟨ghas, hghas⟩ : ∃ g, g = (decide (na = nc) || decide (nb = nc)) := ⟨_, rfl⟩
  rw [← hghas]
  have HS := Lib.hid hghas
  clear hghas
  go_upto_region 8 with (fail)
  have hadd : ∀ RA : List UInt8, Value.string ({ data := #[91, 94] } ++ ({ data := (91 :: RA).toArray } : ByteArray).extract 1 (RA.length + 1)) = .string ⟨(91 :: 94 :: RA).toArray⟩ := fun RA => congrArg Value.string (ByteArray.ext (by simp))
  have HADD := Lib.hid hadd
  clear hadd
  go_upto_if 70 with (fail)
  go_cut [10, 11] (fun u v wx => u = .string ⟨((if turned then [91, 94] else [91]) ++ RA).toArray⟩ ∧ v = .string ⟨((if turned then [91, 94] else [91]) ++ RB).toArray⟩ ∧ w3 = wx)
  case first =>
    cases turned with
    | true =>
      go_wp2_with fail
      go_meet
      exact ⟨HADD.out _, HADD.out _, rfl⟩
    | false =>
      go_wp2_with fail
      go_meet
      exact ⟨rfl, rfl, rfl⟩
  case rest =>
  obtain ⟨rfl, rfl, rfl⟩ := hcut
  clear CA CB HADD hA hB
  obtain ⟨SA, hSA⟩ : ∃ S, S = setT turned a b := ⟨_, rfl⟩
  obtain ⟨SB, hSB⟩ : ∃ S, S = twoT turned a b := ⟨_, rfl⟩
  have e1 : (if turned = true then [91, 94] else [91]) ++ RA = SA := by rw [hSA, HRA.out, HTA.out, HTB.out]; rfl
  have e2 : (if turned = true then [91, 94] else [91]) ++ RB = SB := by rw [hSB, HRB.out, HTA.out, HTB.out]; rfl
  have l1 : SA.length ≤ 8 := by rw [← e1]; cases turned <;> simp <;> omega
  have l2 : SB.length ≤ 8 := by rw [← e2]; cases turned <;> simp <;> omega
  rw [e1, e2]
  clear e1 e2 hla hlb HRA HRB HTA HTB
  have ha1 : a ≠ 94 := by rintro rfl; exact HG.out.1.1 HNA.out.symm
  have ha2 : a ≠ 45 := by rintro rfl; exact HG.out.1.2 HNA.out.symm
  have hb1 : b ≠ 45 := by rintro rfl; exact HG.out.2.1 HNB.out.symm
  have hb2 : b ≠ 94 := by rintro rfl; exact HG.out.2.2 HNB.out.symm
  obtain ⟨L1, L2, L3, L4⟩ := set_law turned a b ha1 ha2 hb1 hb2
  rw [← hSA] at L1 L2
  rw [← hSB] at L3 L4
  have g1 : gin = (decide (a ≤ c) && decide (c ≤ b)) := by rw [HI.out, ← HNA.out, ← HNB.out, ← HNC.out]; simp [UInt8.le_iff_toNat_le]
  have g2 : ghas = (decide (a = c) || decide (b = c)) := by
    rw [HS.out, ← HNA.out, ← HNB.out, ← HNC.out]
    simp only [Int.ofNat_inj, UInt8.toNat_inj]
  have M1 := Lib.hid (show ∀ W, Calls Try.prog 11 #[.string ⟨SA.toArray⟩, .string { data := #[c] }] W (Ret W (.bool (gin != turned))) from fun W => (match_any ⟨SA.toArray⟩ ⟨#[c]⟩ W (by simp [ByteArray.size]; omega) (by simp [ByteArray.size])).mono fun _ _ h => h.eq (congrArg Value.bool (by rw [g1]; exact L1 c)))
  have M2 := Lib.hid (show ∀ W, Calls Try.prog 11 #[.string ⟨SB.toArray⟩, .string { data := #[c] }] W (Ret W (.bool (ghas != turned))) from fun W => (match_any ⟨SB.toArray⟩ ⟨#[c]⟩ W (by simp [ByteArray.size]; omega) (by simp [ByteArray.size])).mono fun _ _ h => h.eq (congrArg Value.bool (by rw [g2]; exact L3 c)))
  have M3 := Lib.hid (show ∀ W, Calls Try.prog 11 #[.string ⟨SA.toArray⟩, .string { data := #[] }] W (Ret W (.bool false)) from fun W => (match_any ⟨SA.toArray⟩ ⟨#[]⟩ W (by simp [ByteArray.size]; omega) (by simp [ByteArray.size])).mono fun _ _ h => h.eq (congrArg Value.bool L2))
  have M4 := Lib.hid (show ∀ W, Calls Try.prog 11 #[.string ⟨SB.toArray⟩, .string { data := #[c, c] }] W (Ret W (.bool false)) from fun W => (match_any ⟨SB.toArray⟩ ⟨#[c, c]⟩ W (by simp [ByteArray.size]; omega) (by simp [ByteArray.size])).mono fun _ _ h => h.eq (congrArg Value.bool (L4 c c)))
  clear L1 L2 L3 L4 g1 g2 ha1 ha2 hb1 hb2 hSA hSB HG
  go_upto_region 11 with (fail)
  go_cut [14] (fun v wx => v = .string { data := #[c] } ∧ Below w.heap.size w wx)
  case first =>
    have hc1 := run_conv1
    have hc2 := conv1_some
    have hnew : (w3.alloc (Obj.cells #[Value.int IntKind.u8 nc] 5)).cell? ⟨w3.heap.size, 0, none⟩ = some (.int .u8 nc) := new_cell _ _ _ 0
    go_wp2_with fail
    go_meet
    refine ⟨congrArg (fun x : UInt8 => Value.string { data := #[x] }) ?_, hb.alloc hb.size _⟩
    rw [← HNC.out]; simp
  case rest =>
  obtain ⟨rfl, hbx⟩ := hcut
  clear hb
  go_upto_region 12 with (fail)
  go_wp2_with fail
  refine (M1.out _).mono ?_
  rintro e w1 ⟨rfl, hm⟩
  replace hbx := hbx.trans (hm.mono hbx.size)
  clear hm
  go_wp2_with fail
  refine (M2.out _).mono ?_
  rintro e w2 ⟨rfl, hm⟩
  replace hbx := hbx.trans (hm.mono hbx.size)
  clear hm
  go_wp2_with fail
  refine (M3.out _).mono ?_
  rintro e w4 ⟨rfl, hm⟩
  replace hbx := hbx.trans (hm.mono hbx.size)
  clear hm
  go_wp2_with fail
  refine (M4.out _).mono ?_
  rintro e w5 ⟨rfl, hm⟩
  replace hbx := hbx.trans (hm.mono hbx.size)
  clear hm
  go_wp2_with fail
  go_ret
  exact ⟨rfl, hbx⟩

theorem u8_wf {n : Int} (h : (Lit.int .u8 n).wf = true) : ∃ a : UInt8, n = a.toNat := by
  have hr := bounds_u8 h
  refine ⟨UInt8.ofNat n.toNat, ?_⟩
  simp only [UInt8.toNat_ofNat']
  omega

theorem sets_walk (a : Int) (wa : (Lit.int .u8 a).wf = true) (b : Int) (wb : (Lit.int .u8 b).wf = true) (c : Int) (wc : (Lit.int .u8 c).wf = true) (turned : Bool) (w : World) :
    Calls Try.prog 3 #[.int .u8 a, .int .u8 b, .int .u8 c, .bool turned] w fun e w' => e = .returned (.bool true) ∧ Below w.heap.size w w' := by
  obtain ⟨a, rfl⟩ := u8_wf wa
  obtain ⟨b, rfl⟩ := u8_wf wb
  obtain ⟨c, rfl⟩ := u8_wf wc
  exact sets_try a b c turned w
end Go.Proofs.Ytjhgljfmheopmaa
