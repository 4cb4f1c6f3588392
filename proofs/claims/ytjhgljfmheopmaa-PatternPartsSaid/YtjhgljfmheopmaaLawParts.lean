/- PatternParts: for every two texts the law answers true. No condition. -/
import Derived.Test.YtjhgljfmheopmaaPatF
import Derived.Test.YtjhgljfmheopmaaPartsL
import Derived.Test.YtjhgljfmheopmaaRel
import Derived.Deep.DeepCutAuto
set_option linter.unusedVariables false
set_option linter.unusedSimpArgs false
namespace Go.Proofs.Ytjhgljfmheopmaa
open Go.RowKit

theorem own_spot {w : World} {base : Nat} {e : TypeId} {sz n m c : Nat} {A : Option Addr} {xs : List Value} (h : w.ownsRow base e sz (.slice A m c) n xs) : ∀ ad, A = some ad → ad.spot = none := by
  intro ad hA
  subst hA
  rcases h.2 with ⟨h, _⟩ | ⟨g, cap, cur, h, _⟩
  · injection h with h _ _; cases h
  · injection h with h _ _
    injection h with h
    rw [h]


/-- what the walk of the last part leans on -/
theorem parts_facts {a : List UInt8} (ho : openOf a = false) {c : UInt8} (hc : blankB c = true) (b : List UInt8) (ha : a.length ≤ 60) (hb : b.length ≤ 60) :
    splitL (a ++ c :: b) = splitL a ++ splitL b ∧ (∀ z ∈ splitL (a ++ c :: b), 0 < z.length ∧ z.length ≤ 121 ∧ splitL z = [z]) ∧ (splitL (a ++ c :: b)).length ≤ 122 := by
  refine ⟨split_append ho hc b, fun z hz => ?_, ?_⟩
  · obtain ⟨h1, h2, h3⟩ := split_parts _ _ (Nat.le_refl _) z hz
    rw [List.length_append, List.length_cons] at h2
    exact ⟨h1, by omega, h3⟩
  · have := split_len (a ++ c :: b)
    rw [List.length_append, List.length_cons] at this
    omega

set_option maxHeartbeats 4000000 in
set_option maxRecDepth 100000 in
theorem parts_list (P Q : List UInt8) (tab : Bool) (w : World) :
    Calls Try.prog 6 #[.string ⟨P.toArray⟩, .string ⟨Q.toArray⟩, .bool tab] w fun e w' => e = .returned (.bool true) ∧ Below w.heap.size w w' := by
  obtain ⟨i0, hi, hz0, hz1, hz2⟩ := info_parts infoStr
  go_enter Try.func6, Try.ntmps6
  go_wp2_with fail
  refine (first_any _).mono ?_
  rintro e w1 ⟨rfl, hb1⟩
  by_cases h1 : 60 < P.length
  · go_wp2_with fail
    go_ret
    exact ⟨rfl, hb1⟩
  by_cases h2 : 60 < Q.length
  · go_wp2_with fail
    go_ret
    exact ⟨rfl, hb1⟩
  go_wp2_with fail
  refine (closed_any ⟨P.toArray⟩ _ (by simp [ByteArray.size]; omega)).mono ?_
  show ∀ e w', Ret w1 (.bool (!openOf P)) e w' → _
  cases hop : openOf P with
  | true =>
    have HOP := Lib.hid hop
    clear hop
    rintro e w2 ⟨rfl, hb2⟩
    replace hb2 := hb1.trans (hb2.mono hb1.size); clear hb1
    go_wp2_with fail
    go_ret
    exact ⟨rfl, hb2⟩
  | false =>
  obtain ⟨c, hc, hcb⟩ : ∃ c : UInt8, c = (if tab then 9 else 32) ∧ blankB c = true := ⟨_, rfl, by cases tab <;> rfl⟩
  have HC := Lib.hid hc
  obtain ⟨f1, f2, f3⟩ := parts_facts hop hcb Q (by omega) (by omega)
  obtain ⟨Z, hZ⟩ : ∃ Z, Z = splitL (P ++ c :: Q) := ⟨_, rfl⟩
  obtain ⟨X, hX⟩ : ∃ X, X = splitL P := ⟨_, rfl⟩
  obtain ⟨Y, hY⟩ : ∃ Y, Y = splitL Q := ⟨_, rfl⟩
  rw [← hZ, ← hX, ← hY] at f1
  rw [← hZ] at f2 f3
  have S1 := Lib.hid (show ∀ W, Calls Try.prog 12 #[.string ⟨P.toArray⟩] W (StrsRet X W) by intro W; rw [hX]; exact split_any ⟨P.toArray⟩ W (by simp [ByteArray.size]; omega))
  have S2 := Lib.hid (show ∀ W, Calls Try.prog 12 #[.string ⟨Q.toArray⟩] W (StrsRet Y W) by intro W; rw [hY]; exact split_any ⟨Q.toArray⟩ W (by simp [ByteArray.size]; omega))
  have e3 : (({ data := P.toArray } : ByteArray) ++ { data := #[c] } ++ { data := Q.toArray }).data.toList = P ++ c :: Q := by simp
  have l3 : (({ data := P.toArray } : ByteArray) ++ { data := #[c] } ++ { data := Q.toArray }).size ≤ 1000 := by simp [ByteArray.size]; omega
  have S3 : ∀ W, Calls Try.prog 12 #[.string (({ data := P.toArray } : ByteArray) ++ { data := #[c] } ++ { data := Q.toArray })] W (StrsRet Z W) := by
    intro W
    generalize (({ data := P.toArray } : ByteArray) ++ { data := #[c] } ++ { data := Q.toArray }) = B at e3 l3
    rw [hZ, ← e3]
    exact split_any B W (by omega)
  replace S3 := Lib.hid S3
  have S4 := Lib.hid (show ∀ z ∈ Z, ∀ W, Calls Try.prog 12 #[.string ⟨z.toArray⟩] W (StrsRet [z] W) by
    intro z hz W
    have h := f2 z hz
    rw [← h.2.2]
    exact split_any ⟨z.toArray⟩ W (by simp [ByteArray.size]; omega))
  have ep : (({ data := P.toArray } : ByteArray) ++ { data := Q.toArray }).data.toList = P ++ Q := by simp
  have lp : (({ data := P.toArray } : ByteArray) ++ { data := Q.toArray }).size ≤ 1000 := by simp [ByteArray.size]; omega
  have P1 : ∀ W, Calls Try.prog 13 #[.string (({ data := P.toArray } : ByteArray) ++ { data := Q.toArray })] W (Ret W (.string (({ data := (plainL P).toArray } : ByteArray) ++ { data := (plainL Q).toArray }))) := by
    intro W
    rw [show (({ data := (plainL P).toArray } : ByteArray) ++ { data := (plainL Q).toArray }) = ⟨(plainL P ++ plainL Q).toArray⟩ from ByteArray.ext (by simp)]
    generalize (({ data := P.toArray } : ByteArray) ++ { data := Q.toArray }) = B at ep lp
    rw [← plain_append hop, ← ep]
    exact plain_any B W (by omega)
  replace P1 := Lib.hid P1
  have P2 := Lib.hid (show ∀ W, Calls Try.prog 13 #[.string ⟨P.toArray⟩] W (Ret W (.string ⟨(plainL P).toArray⟩)) from fun W => plain_any ⟨P.toArray⟩ W (by simp [ByteArray.size]; omega))
  have P3 := Lib.hid (show ∀ W, Calls Try.prog 13 #[.string ⟨Q.toArray⟩] W (Ret W (.string ⟨(plainL Q).toArray⟩)) from fun W => plain_any ⟨Q.toArray⟩ W (by simp [ByteArray.size]; omega))
  have F1 := Lib.hid f1
  have F2 := Lib.hid f2
  have hlx : X.length + Y.length ≤ 122 := by rw [← List.length_append, ← f1]; exact f3
  have HOP := Lib.hid hop
  clear f1 f2 hZ hX hY e3 l3 ep lp hop hc hcb
  rintro e w2 ⟨rfl, hb2⟩
  replace hb2 := hb1.trans (hb2.mono hb1.size); clear hb1
  go_upto_if 34 with (fail)
  go_cut [8] (fun v wx => v = .string { data := #[c] } ∧ w2 = wx)
  case first =>
    cases tab with
    | true =>
      go_wp2_with fail
      go_meet
      exact ⟨by rw [HC.out]; rfl, rfl⟩
    | false =>
      go_wp2_with fail
      go_meet
      exact ⟨by rw [HC.out]; rfl, rfl⟩
  case rest =>
  obtain ⟨rfl, rfl⟩ := hcut
  go_wp2_with fail
  refine (S1.out _).mono ?_
  rintro e w3 ⟨A1, c1, rfl, hox, hn⟩
  obtain ⟨_, _, hA1, _, _, hrx, hAx⟩ := RdL.of_own strc_len hox rfl
  injection hA1 with q1 _ q2
  subst q1 q2
  have hspx := own_spot hox
  replace hb2 := hb2.trans (hn.mono hb2.size)
  clear hn hox
  go_wp2_with fail
  refine (S2.out _).mono ?_
  rintro e w4 ⟨A2, c2, rfl, hoy, hn⟩
  obtain ⟨_, _, hA2, _, _, hry, hAy⟩ := RdL.of_own strc_len hoy rfl
  injection hA2 with q1 _ q2
  subst q1 q2
  have hspy := own_spot hoy
  replace hb2 := hb2.trans (hn.mono hb2.size)
  replace hrx := hrx.below hn
  clear hn hoy
  go_wp2_with fail
  refine (S3.out _).mono ?_
  rintro e w5 ⟨A3, c3, rfl, hoz, hn⟩
  obtain ⟨_, _, hA3, _, _, hrz, hAz⟩ := RdL.of_own strc_len hoz rfl
  injection hA3 with q1 _ q2
  subst q1 q2
  replace hb2 := hb2.trans (hn.mono hb2.size)
  replace hrx := hrx.below hn
  replace hry := hry.below hn
  clear hn hoz
  go_upto_region 10 with (fail)
  have hln : w5.heap.size ≤ w5.heap.size := Nat.le_refl _
  go_wp2_with (first
    | (at_make; refine wpList_make_own w5 rfl _ _ _ rfl w5.heap.size _ i0 _ 1 Try.underlying27 hi hz0 hz1 .i64 .i64 200 200 rfl rfl rfl (by rw [hz2]; decide) (by decide) (Nat.le_refl _) ?_; intro w6 ho6 hg6; have hb6 := (Below.refl w5.heap.size w5).grown hg6 (Nat.le_refl _) (fun k h => by cases h); have hrx6 := hrx.below hb6; have hry6 := hry.below hb6)
    | (at_builtin; refine wpList_pushAll (enc := strc) rfl _ _ _ rfl Try.underlying27 hi hz0 hz1 hz2 rfl (by decide) ho6 rfl rfl rfl hrx6 hAx hspx strc_len strc_one (by omega) (by decide) hb6.size ?_; intro A' c' w7 ho7 hb7 hoo7; rw [Nat.zero_add, List.nil_append] at ho7; have hbx7 := hb6.trans hb7; have hry7 := hry.below hbx7; clear ho6 hrx6)
    | (at_builtin; refine wpList_pushAll (enc := strc) rfl _ _ _ rfl Try.underlying27 hi hz0 hz1 hz2 rfl (by decide) ho7 rfl rfl rfl hry7 hAy hspy strc_len strc_one (by omega) (by decide) hbx7.size ?_; intro A'' c'' w8 ho8 hb8 hoo8; have hbx8 := hbx7.trans hb8; clear ho7 hry7))
  have hb := hb2.trans (hbx8.mono hb2.size)
  replace hrz := hrz.below hbx8
  have hlz : Z.length = X.length + Y.length := by rw [F1.out, List.length_append]
  have hall : w8.ownsRow w5.heap.size 9 1 (.slice A'' Z.length c'') Z.length (Z.flatMap strc) := by
    rw [hlz, F1.out, List.flatMap_append]
    exact ho8
  rw [← hlz]
  obtain ⟨_, _, hA8, _, _, hra, hAa⟩ := RdL.of_own strc_len hall rfl
  injection hA8 with q1 _ q2
  subst q1 q2
  have hz122 : Z.length ≤ 122 := by omega
  clear ho8 hall hb2 hbx8 hbx7 hb7 hb8 hb6 hoo7 hoo8 hg6 hrx hry hAx hAy hspx hspy hlz F1 hlx
  go_loopw [13] (fun i wr => ∃ k : Nat, k ≤ Z.length ∧ i = .int .i64 k ∧ Below w8.heap.size w8 wr) (fun i _ => Z.length - (intOf i).toNat)
  case atStart => exact ⟨0, Nat.zero_le _, rfl, Below.refl _ _⟩
  case round =>
    obtain ⟨k, hk, rfl, hbr⟩ := hrel
    replace hb := hb.trans (hbr.mono hb.size)
    replace hrz := hrz.below hbr
    by_cases hlt : k < Z.length
    · obtain ⟨b, o, rfl, _, hcell⟩ := hrz k hlt
      have c0 := hcell 0 _ rfl
      obtain ⟨z, hz⟩ : ∃ z, z = Z[k] := ⟨_, rfl⟩
      have hmem : z ∈ Z := by rw [hz]; exact List.getElem_mem _
      rw [← hz] at c0
      clear hcell hz
      have SZ := Lib.hid (S4.out z hmem)
      obtain ⟨z1, z2, _⟩ := F2.out z hmem
      clear hmem
      simp only [Nat.mul_one, Nat.add_zero] at c0
      go_wp2_with fail
      refine (SZ.out _).mono ?_
      rintro e w9 ⟨A5, c5, rfl, how, hn⟩
      obtain ⟨_, _, hA9, _, _, hrw, _⟩ := RdL.of_own (l := [z]) strc_len how rfl
      injection hA9 with q1 _ q2
      subst q1 q2
      obtain ⟨b5, o5, rfl, _, hcell⟩ := hrw 0 (by simp)
      have d0 := hcell 0 _ rfl
      simp only [Nat.zero_mul, Nat.add_zero, List.getElem_cons_zero] at d0
      replace hb := hb.trans (hn.mono hb.size)
      replace c0 := cell_keep hn c0
      have hbr9 := hbr.trans (hn.mono hbr.size)
      clear hcell how hrw hn
      go_upto_region 15 with (fail)
      go_cut [80] (fun v wx => v = .bool false ∧ Below w9.heap.size w9 wx)
      case first =>
        have hzE : z.isEmpty = false := by cases z with | nil => simp at z1 | cons _ _ => rfl
        refine wp_region_rel [eqT (.slice (some ⟨b, o, none⟩) Z.length c3), eqT (.int .i64 k), eqT (.pointer (some ⟨b, o + k, none⟩)), eqT (.string ⟨z.toArray⟩), eqT (.bool false), eqT (.bool false), eqT (.slice (some ⟨b5, o5, none⟩) 1 c5), eqT (.int .i64 1), eqT (.bool false), eqT (.bool false), eqT (.bool false), eqT (.slice (some ⟨b5, o5, none⟩) 1 c5), eqT (.pointer (some ⟨b5, o5, none⟩)), eqT (.string ⟨z.toArray⟩), eqT (.slice (some ⟨b, o, none⟩) Z.length c3), eqT (.int .i64 k), eqT (.pointer (some ⟨b, o + k, none⟩)), eqT (.string ⟨z.toArray⟩), eqT (.bool false), eqT (.bool false)] (by kernel_rfl) (by kernel_rfl) rfl ?_
        refine ⟨?_, ?_⟩
        focus
          unfold opGoal
          rw [if_pos (by kernel_rfl)]
          intro x hb hd K hk
          clear hd
          go_wp2_with fail
          exact hk _ _ rfl trivial (Below.refl _ _)
        rintro _ rfl
        simp only [Act.put, List.setIfInBounds_toArray, List.set_cons_succ, List.set_cons_zero]
        refine ⟨?_, ?_⟩
        focus
          unfold opGoal
          rw [if_pos (by kernel_rfl)]
          intro x hb hd K hk
          clear hd
          go_wp2_with fail
          exact hk _ _ rfl trivial (Below.refl _ _)
        rintro _ rfl
        simp only [Act.put, List.setIfInBounds_toArray, List.set_cons_succ, List.set_cons_zero]
        refine ⟨?_, ?_⟩
        focus
          unfold opGoal
          rw [if_pos (by kernel_rfl)]
          intro x hb hd K hk
          clear hd
          go_wp2_with fail
          exact hk _ _ rfl trivial (Below.refl _ _)
        rintro _ rfl
        simp only [Act.put, List.setIfInBounds_toArray, List.set_cons_succ, List.set_cons_zero]
        refine ⟨?_, ?_⟩
        focus
          unfold opGoal
          rw [if_pos (by kernel_rfl)]
          intro x hb hd K hk
          clear hd
          have l0 := cell_keep hb c0
          have l1 := cell_keep hb d0
          go_wp2_with fail
          exact hk _ _ rfl trivial (Below.refl _ _)
        rintro _ rfl
        simp only [Act.put, List.setIfInBounds_toArray, List.set_cons_succ, List.set_cons_zero]
        refine ⟨?_, ?_⟩
        · unfold opGoal
          rw [if_pos (by kernel_rfl)]
          intro x hb hd K hk
          clear hd
          go_wp2_with fail
          first | exact hk _ _ rfl trivial (Below.refl _ _) | exact hk _ _ (congrArg Value.bool (by first | exact hzE | simp [hzE])) trivial (Below.refl _ _)
        rintro _ rfl
        simp only [Act.put, List.setIfInBounds_toArray, List.set_cons_succ, List.set_cons_zero]
        refine ⟨?_, ?_⟩
        focus
          unfold opGoal
          rw [if_pos (by kernel_rfl)]
          intro x hb hd K hk
          clear hd
          go_wp2_with fail
          exact hk _ _ rfl trivial (Below.refl _ _)
        rintro _ rfl
        simp only [Act.put, List.setIfInBounds_toArray, List.set_cons_succ, List.set_cons_zero]
        refine ⟨?_, ?_⟩
        focus
          unfold opGoal
          rw [if_pos (by kernel_rfl)]
          intro x hb hd K hk
          clear hd
          go_wp2_with fail
          exact hk _ _ rfl trivial (Below.refl _ _)
        rintro _ rfl
        simp only [Act.put, List.setIfInBounds_toArray, List.set_cons_succ, List.set_cons_zero]
        refine ⟨?_, ?_⟩
        focus
          unfold opGoal
          rw [if_pos (by kernel_rfl)]
          intro x hb hd K hk
          clear hd
          go_wp2_with fail
          exact hk _ _ rfl trivial (Below.refl _ _)
        rintro _ rfl
        simp only [Act.put, List.setIfInBounds_toArray, List.set_cons_succ, List.set_cons_zero]
        refine ⟨?_, ?_⟩
        focus
          unfold opGoal
          rw [if_pos (by kernel_rfl)]
          intro x hb hd K hk
          clear hd
          go_wp2_with fail
          exact hk _ _ rfl trivial (Below.refl _ _)
        rintro _ rfl
        simp only [Act.put, List.setIfInBounds_toArray, List.set_cons_succ, List.set_cons_zero]
        refine ⟨?_, ?_⟩
        focus
          unfold opGoal
          rw [if_pos (by kernel_rfl)]
          intro x hb hd K hk
          clear hd
          go_wp2_with fail
          exact hk _ _ rfl trivial (Below.refl _ _)
        rintro _ rfl
        simp only [Act.put, List.setIfInBounds_toArray, List.set_cons_succ, List.set_cons_zero]
        refine ⟨?_, ?_⟩
        focus
          unfold opGoal
          rw [if_pos (by kernel_rfl)]
          intro x hb hd K hk
          clear hd
          go_wp2_with fail
          exact hk _ _ rfl trivial (Below.refl _ _)
        rintro _ rfl
        simp only [Act.put, List.setIfInBounds_toArray, List.set_cons_succ, List.set_cons_zero]
        refine ⟨?_, ?_⟩
        focus
          unfold opGoal
          rw [if_pos (by kernel_rfl)]
          intro x hb hd K hk
          clear hd
          go_wp2_with fail
          exact hk _ _ rfl trivial (Below.refl _ _)
        rintro _ rfl
        simp only [Act.put, List.setIfInBounds_toArray, List.set_cons_succ, List.set_cons_zero]
        refine ⟨?_, ?_⟩
        focus
          unfold opGoal
          rw [if_pos (by kernel_rfl)]
          intro x hb hd K hk
          clear hd
          go_wp2_with fail
          exact hk _ _ rfl trivial (Below.refl _ _)
        rintro _ rfl
        simp only [Act.put, List.setIfInBounds_toArray, List.set_cons_succ, List.set_cons_zero]
        refine ⟨?_, ?_⟩
        focus
          unfold opGoal
          rw [if_pos (by kernel_rfl)]
          intro x hb hd K hk
          clear hd
          have l0 := cell_keep hb c0
          have l1 := cell_keep hb d0
          go_wp2_with fail
          exact hk _ _ rfl trivial (Below.refl _ _)
        rintro _ rfl
        simp only [Act.put, List.setIfInBounds_toArray, List.set_cons_succ, List.set_cons_zero]
        refine ⟨?_, ?_⟩
        focus
          unfold opGoal
          rw [if_pos (by kernel_rfl)]
          intro x hb hd K hk
          clear hd
          go_wp2_with fail
          exact hk _ _ rfl trivial (Below.refl _ _)
        rintro _ rfl
        simp only [Act.put, List.setIfInBounds_toArray, List.set_cons_succ, List.set_cons_zero]
        refine ⟨?_, ?_⟩
        focus
          unfold opGoal
          rw [if_pos (by kernel_rfl)]
          intro x hb hd K hk
          clear hd
          go_wp2_with fail
          exact hk _ _ rfl trivial (Below.refl _ _)
        rintro _ rfl
        simp only [Act.put, List.setIfInBounds_toArray, List.set_cons_succ, List.set_cons_zero]
        refine ⟨?_, ?_⟩
        focus
          unfold opGoal
          rw [if_pos (by kernel_rfl)]
          intro x hb hd K hk
          clear hd
          go_wp2_with fail
          exact hk _ _ rfl trivial (Below.refl _ _)
        rintro _ rfl
        simp only [Act.put, List.setIfInBounds_toArray, List.set_cons_succ, List.set_cons_zero]
        refine ⟨?_, ?_⟩
        focus
          unfold opGoal
          rw [if_pos (by kernel_rfl)]
          intro x hb hd K hk
          clear hd
          have l0 := cell_keep hb c0
          have l1 := cell_keep hb d0
          go_wp2_with fail
          exact hk _ _ rfl trivial (Below.refl _ _)
        rintro _ rfl
        simp only [Act.put, List.setIfInBounds_toArray, List.set_cons_succ, List.set_cons_zero]
        refine ⟨?_, ?_⟩
        · unfold opGoal
          rw [if_pos (by kernel_rfl)]
          intro x hb hd K hk
          clear hd
          go_wp2_with fail
          first | exact hk _ _ rfl trivial (Below.refl _ _) | exact hk _ _ (congrArg Value.bool (by first | exact hzE | simp [hzE])) trivial (Below.refl _ _)
        rintro _ rfl
        simp only [Act.put, List.setIfInBounds_toArray, List.set_cons_succ, List.set_cons_zero]
        refine ⟨?_, ?_⟩
        focus
          unfold opGoal
          rw [if_pos (by kernel_rfl)]
          intro x hb hd K hk
          clear hd
          go_wp2_with fail
          exact hk _ _ rfl trivial (Below.refl _ _)
        rintro _ rfl
        simp only [Act.put, List.setIfInBounds_toArray, List.set_cons_succ, List.set_cons_zero]
        intro wx hbx _
        go_wp2_with fail
        go_meet
        exact ⟨rfl, hbx⟩
      case rest =>
      obtain ⟨rfl, hbx⟩ := hcut
      replace hb := hb.trans (hbx.mono hb.size)
      replace hbr9 := hbr9.trans (hbx.mono hbr9.size)
      clear hbx c0 d0
      go_wp2_with fail
      go_roundw
      case rel => exact ⟨k + 1, by omega, by go_num, hbr9⟩
      case measure => simp [intOf]; omega
    · obtain rfl : k = Z.length := by omega
      replace hra := hra.below hbr
      clear hlt hk
      have T1 := Lib.hid (show ∀ W, RdL W 1 strc A3 Z → RdL W 1 strc A'' Z → Calls Try.prog 16 #[.slice A3 Z.length c3, .slice A'' Z.length c''] W (Ret W (.bool true)) from fun W q1 q2 =>
        (sameTexts_any A3 A'' c3 c'' Z Z W q1 q2 (by omega) (by omega)).mono fun _ _ h => h.eq (congrArg Value.bool (by simp)))
      go_wp2_with fail
      refine (T1.out _ hrz hra).mono ?_
      rintro e w9 ⟨rfl, hn⟩
      replace hb := hb.trans (hn.mono hb.size)
      clear hn
      go_wp2_with fail
      refine (P1.out _).mono ?_
      rintro e w10 ⟨rfl, hn⟩
      replace hb := hb.trans (hn.mono hb.size)
      clear hn
      go_wp2_with fail
      refine (P2.out _).mono ?_
      rintro e w11 ⟨rfl, hn⟩
      replace hb := hb.trans (hn.mono hb.size)
      clear hn
      go_wp2_with fail
      refine (P3.out _).mono ?_
      rintro e w12 ⟨rfl, hn⟩
      replace hb := hb.trans (hn.mono hb.size)
      clear hn
      have lp1 : (plainL P).length ≤ 60 := by
        have := piecesOf_length_le P 0
        unfold plainL
        rw [List.length_map]
        omega
      have lp2 : (plainL Q).length ≤ 60 := by
        have := piecesOf_length_le Q 0
        unfold plainL
        rw [List.length_map]
        omega
      go_wp2_with fail
      go_ret
      exact ⟨rfl, hb⟩

theorem parts_walk (p q : ByteArray) (tab : Bool) (w : World) :
    Calls Try.prog 6 #[.string p, .string q, .bool tab] w fun e w' => e = .returned (.bool true) ∧ Below w.heap.size w w' :=
  parts_list p.data.toList q.data.toList tab w
end Go.Proofs.Ytjhgljfmheopmaa
