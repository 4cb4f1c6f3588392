/- PatternFiles: for every text and every list of texts the law answers true. No condition. -/
import Derived.Test.YtjhgljfmheopmaaFilesL
import Derived.Test.YtjhgljfmheopmaaRel
import Derived.Deep.DeepCutAuto
set_option linter.unusedVariables false
set_option linter.unusedSimpArgs false
namespace Go.Proofs.Ytjhgljfmheopmaa
open Go.RowKit

theorem RdL.str {w : World} {b o : Nat} {l : List (List UInt8)} (h : RdL w 1 strc (some ⟨b, o, none⟩) l) {k : Nat} (hk : k < l.length) : w.cell? ⟨b, o + k, none⟩ = some (.string ⟨l[k].toArray⟩) := by
  obtain ⟨b', o', he, _, hc⟩ := h k hk
  injection he with he
  injection he with h1 h2
  subst h1 h2
  have := hc 0 _ rfl
  rwa [Nat.mul_one, Nat.add_zero] at this


set_option maxHeartbeats 8000000 in
set_option maxRecDepth 100000 in
theorem files_list (P : List UInt8) (A : Option Addr) (cp : Nat) (L : List (List UInt8)) (w : World) (hrd : RdL w 1 strc A L) :
    Calls Try.prog 7 #[.string ⟨P.toArray⟩, .slice A L.length cp] w fun e w' => e = .returned (.bool true) ∧ Below w.heap.size w w' := by
  go_enter Try.func7, Try.ntmps7
  go_wp2_with fail
  refine (first_any _).mono ?_
  rintro e w1 ⟨rfl, hb1⟩
  by_cases h1 : 40 < P.length
  · go_wp2_with fail
    go_ret
    exact ⟨rfl, hb1⟩
  by_cases h2 : 20 < L.length
  · go_wp2_with fail
    go_ret
    exact ⟨rfl, hb1⟩
  replace hrd := hrd.below hb1
  go_wp2_with fail
  go_loopw [6] (fun i wr => ∃ k : Nat, k ≤ L.length ∧ i = .int .i64 k ∧ wr = w1 ∧ Hid (∀ x ∈ L.take k, x.length ≤ 40))
    (fun i _ => L.length - (intOf i).toNat)
  case atStart => exact ⟨0, Nat.zero_le _, rfl, rfl, by intro c hc; simp at hc⟩
  case round =>
    obtain ⟨k, hk, rfl, rfl, H⟩ := hrel
    by_cases hlt : k < L.length
    · obtain ⟨b, o, rfl, _, hcell⟩ := hrd k hlt
      have c0 := hcell 0 _ rfl
      obtain ⟨z, hz⟩ : ∃ z, z = L[k] := ⟨_, rfl⟩
      rw [← hz] at c0
      have HZ := Lib.hid hz
      clear hcell hz
      simp only [Nat.mul_one, Nat.add_zero] at c0
      by_cases hzl : 40 < z.length
      · go_wp2_with fail
        go_ret
        exact ⟨rfl, hb1⟩
      · go_wp2_with fail
        go_roundw
        case rel =>
          refine ⟨k + 1, by omega, by go_num, trivial, ?_⟩
          refine Lib.hid ?_
          intro x hx
          rw [List.take_succ_eq_append_getElem hlt, List.mem_append, List.mem_singleton] at hx
          rcases hx with hx | rfl
          · exact H.out x hx
          · rw [← HZ.out]; omega
        case measure => simp [intOf]; omega
    · obtain rfl : k = L.length := by omega
      clear hlt
      have HL := Lib.hid (show ∀ x ∈ L, x.length ≤ 40 from fun x hx => H.out x (by rw [List.take_length]; exact hx))
      clear H
      go_wp2_with fail
      refine (files_any P A cp L wr hrd (by omega) (by omega) (fun x hx => by have := HL.out x hx; omega)).mono ?_
      obtain ⟨hsp, hmem⟩ := files_spec P L
      have hFl := files_len P L
      obtain ⟨F, hF⟩ : ∃ F, F = filesL P L := ⟨_, rfl⟩
      rw [← hF] at hsp hmem hFl ⊢
      have HSP := Lib.hid hsp
      have HMEM := Lib.hid hmem
      clear hsp hmem hF
      rintro e w2 ⟨A2, c2, rfl, hown, hb2⟩
      obtain ⟨_, _, hA1, _, _, hrf, _⟩ := RdL.of_own strc_len hown rfl
      injection hA1 with q1 _ q2
      subst q1 q2
      replace hrd := hrd.below hb2
      replace hb1 := hb1.trans (hb2.mono hb1.size)
      clear hb2 hown
      go_wp2_with fail
      go_loopw [8] (fun i wr' => ∃ k : Nat, k ≤ F.length ∧ i = .int .i64 k ∧ Below w2.heap.size w2 wr')
        (fun i _ => F.length - (intOf i).toNat)
      case atStart => exact ⟨0, Nat.zero_le _, rfl, Below.refl _ _⟩
      case round =>
        obtain ⟨k, hk, rfl, hb⟩ := hrel
        by_cases hlt : k < F.length
        · obtain ⟨bF, oF, rfl, _, _⟩ := (hrf.below hb) k hlt
          obtain ⟨f, hf⟩ : ∃ f, f = F[k] := ⟨_, rfl⟩
          have HF := Lib.hid hf
          clear hf
          go_wp2_with fail
          go_loopw [9, 10] (fun g i wr' => ∃ m : Nat, m ≤ L.length ∧ i = .int .i64 m ∧ g = .bool ((L.take m).any (· == f)) ∧ Below w2.heap.size w2 wr')
            (fun g i _ => L.length - (intOf i).toNat)
          case atStart => exact ⟨0, Nat.zero_le _, rfl, by simp, hb⟩
          case round =>
            clear hb
            obtain ⟨m, hm, rfl, rfl, hb⟩ := hrel
            by_cases hltm : m < L.length
            · obtain ⟨bL, oL, rfl, _, _⟩ := hrd m hltm
              have cF := (hrf.below hb).str hlt
              have cL := (hrd.below hb).str hltm
              rw [← HF.out] at cF
              obtain ⟨x, hx⟩ : ∃ x, x = L[m] := ⟨_, rfl⟩
              rw [← hx] at cL
              obtain ⟨g, hg⟩ : ∃ g, g = (L.take m).any (· == f) := ⟨_, rfl⟩
              rw [← hg]
              have HN := Lib.hid (show (L.take (m + 1)).any (· == f) = (g || (x == f)) by rw [List.take_succ_eq_append_getElem hltm, List.any_append, hg, hx]; simp)
              clear hx hg
              go_upto_region 17 with (fail)
              cases g with
              | true =>
                refine wp_region_rel [eqT (.bool true), eqT (.bool true), eqT undef, eqT undef, eqT undef, eqT undef, eqT undef, eqT undef, eqT undef, eqT undef, eqT undef, eqT (.bool true), eqT (.bool true)] (by kernel_rfl) (by kernel_rfl) rfl ?_
                refine ⟨?_, ?_⟩
                focus
                  unfold opGoal
                  rw [if_pos (by kernel_rfl)]
                  intro x hb hd K hk
                  clear hd
                  go_wp2_with fail
                  exact hk _ _ rfl trivial (Below.refl _ _)
                rintro _ rfl
                simp only [Act.put, List.setIfInBounds_toArray, List.set_cons_succ, List.set_cons_zero]
                refine ⟨?_, ?_⟩
                focus
                  unfold opGoal
                  rw [if_pos (by kernel_rfl)]
                  intro x hb hd K hk
                  clear hd
                  go_wp2_with fail
                  exact hk _ _ rfl trivial (Below.refl _ _)
                rintro _ rfl
                simp only [Act.put, List.setIfInBounds_toArray, List.set_cons_succ, List.set_cons_zero]
                refine ⟨?_, ?_⟩
                focus
                  unfold opGoal
                  rw [if_neg (not_true (by kernel_rfl))]
                  exact ⟨rfl, fun _ => trivial⟩
                rintro _ rfl
                simp only [Act.put, List.setIfInBounds_toArray, List.set_cons_succ, List.set_cons_zero]
                refine ⟨?_, ?_⟩
                focus
                  unfold opGoal
                  rw [if_neg (not_true (by kernel_rfl))]
                  exact ⟨rfl, fun _ => trivial⟩
                rintro _ rfl
                simp only [Act.put, List.setIfInBounds_toArray, List.set_cons_succ, List.set_cons_zero]
                refine ⟨?_, ?_⟩
                focus
                  unfold opGoal
                  rw [if_neg (not_true (by kernel_rfl))]
                  exact ⟨rfl, fun _ => trivial⟩
                rintro _ rfl
                simp only [Act.put, List.setIfInBounds_toArray, List.set_cons_succ, List.set_cons_zero]
                refine ⟨?_, ?_⟩
                focus
                  unfold opGoal
                  rw [if_neg (not_true (by kernel_rfl))]
                  exact ⟨rfl, fun _ => trivial⟩
                rintro _ rfl
                simp only [Act.put, List.setIfInBounds_toArray, List.set_cons_succ, List.set_cons_zero]
                refine ⟨?_, ?_⟩
                focus
                  unfold opGoal
                  rw [if_neg (not_true (by kernel_rfl))]
                  exact ⟨rfl, fun _ => trivial⟩
                rintro _ rfl
                simp only [Act.put, List.setIfInBounds_toArray, List.set_cons_succ, List.set_cons_zero]
                refine ⟨?_, ?_⟩
                focus
                  unfold opGoal
                  rw [if_neg (not_true (by kernel_rfl))]
                  exact ⟨rfl, fun _ => trivial⟩
                rintro _ rfl
                simp only [Act.put, List.setIfInBounds_toArray, List.set_cons_succ, List.set_cons_zero]
                refine ⟨?_, ?_⟩
                focus
                  unfold opGoal
                  rw [if_neg (not_true (by kernel_rfl))]
                  exact ⟨rfl, fun _ => trivial⟩
                rintro _ rfl
                simp only [Act.put, List.setIfInBounds_toArray, List.set_cons_succ, List.set_cons_zero]
                refine ⟨?_, ?_⟩
                focus
                  unfold opGoal
                  rw [if_neg (not_true (by kernel_rfl))]
                  exact ⟨rfl, fun _ => trivial⟩
                rintro _ rfl
                simp only [Act.put, List.setIfInBounds_toArray, List.set_cons_succ, List.set_cons_zero]
                refine ⟨?_, ?_⟩
                focus
                  unfold opGoal
                  rw [if_neg (not_true (by kernel_rfl))]
                  exact ⟨rfl, fun _ => trivial⟩
                rintro _ rfl
                simp only [Act.put, List.setIfInBounds_toArray, List.set_cons_succ, List.set_cons_zero]
                refine ⟨?_, ?_⟩
                focus
                  unfold opGoal
                  rw [if_pos (by kernel_rfl)]
                  intro x hb hd K hk
                  clear hd
                  go_wp2_with fail
                  exact hk _ _ rfl trivial (Below.refl _ _)
                rintro _ rfl
                simp only [Act.put, List.setIfInBounds_toArray, List.set_cons_succ, List.set_cons_zero]
                refine ⟨?_, ?_⟩
                focus
                  unfold opGoal
                  rw [if_pos (by kernel_rfl)]
                  intro x hb hd K hk
                  clear hd
                  go_wp2_with fail
                  exact hk _ _ rfl trivial (Below.refl _ _)
                rintro _ rfl
                simp only [Act.put, List.setIfInBounds_toArray, List.set_cons_succ, List.set_cons_zero]
                intro wx hbx _
                go_wp2_with fail
                go_roundw
                case rel => exact ⟨m + 1, by omega, by go_num, congrArg Value.bool (by rw [HN.out]; rfl), hb.trans (hbx.mono hb.size)⟩
                case measure => simp [intOf]; omega
              | false =>
                refine wp_region_rel [eqT (.bool false), eqT (.bool false), eqT (.slice (some ⟨bL, oL, none⟩) L.length cp), eqT (.int .i64 m), eqT (.pointer (some ⟨bL, oL + m, none⟩)), eqT (.string ⟨x.toArray⟩), eqT (.slice (some ⟨bF, oF, none⟩) F.length c2), eqT (.int .i64 k), eqT (.pointer (some ⟨bF, oF + k, none⟩)), eqT (.string ⟨f.toArray⟩), eqT (.bool (x == f)), eqT (.bool (x == f)), eqT (.bool (x == f))] (by kernel_rfl) (by kernel_rfl) rfl ?_
                refine ⟨?_, ?_⟩
                focus
                  unfold opGoal
                  rw [if_pos (by kernel_rfl)]
                  intro x hb hd K hk
                  clear hd
                  go_wp2_with fail
                  exact hk _ _ rfl trivial (Below.refl _ _)
                rintro _ rfl
                simp only [Act.put, List.setIfInBounds_toArray, List.set_cons_succ, List.set_cons_zero]
                refine ⟨?_, ?_⟩
                focus
                  unfold opGoal
                  rw [if_pos (by kernel_rfl)]
                  intro x hb hd K hk
                  clear hd
                  go_wp2_with fail
                  exact hk _ _ rfl trivial (Below.refl _ _)
                rintro _ rfl
                simp only [Act.put, List.setIfInBounds_toArray, List.set_cons_succ, List.set_cons_zero]
                refine ⟨?_, ?_⟩
                focus
                  unfold opGoal
                  rw [if_pos (by kernel_rfl)]
                  intro x hb hd K hk
                  clear hd
                  go_wp2_with fail
                  exact hk _ _ rfl trivial (Below.refl _ _)
                rintro _ rfl
                simp only [Act.put, List.setIfInBounds_toArray, List.set_cons_succ, List.set_cons_zero]
                refine ⟨?_, ?_⟩
                focus
                  unfold opGoal
                  rw [if_pos (by kernel_rfl)]
                  intro x hb hd K hk
                  clear hd
                  go_wp2_with fail
                  exact hk _ _ rfl trivial (Below.refl _ _)
                rintro _ rfl
                simp only [Act.put, List.setIfInBounds_toArray, List.set_cons_succ, List.set_cons_zero]
                refine ⟨?_, ?_⟩
                focus
                  unfold opGoal
                  rw [if_pos (by kernel_rfl)]
                  intro x hb hd K hk
                  clear hd
                  go_wp2_with fail
                  exact hk _ _ rfl trivial (Below.refl _ _)
                rintro _ rfl
                simp only [Act.put, List.setIfInBounds_toArray, List.set_cons_succ, List.set_cons_zero]
                refine ⟨?_, ?_⟩
                focus
                  unfold opGoal
                  rw [if_pos (by kernel_rfl)]
                  intro x hb hd K hk
                  clear hd
                  have l0 := cell_keep hb cL
                  go_wp2_with fail
                  exact hk _ _ rfl trivial (Below.refl _ _)
                rintro _ rfl
                simp only [Act.put, List.setIfInBounds_toArray, List.set_cons_succ, List.set_cons_zero]
                refine ⟨?_, ?_⟩
                focus
                  unfold opGoal
                  rw [if_pos (by kernel_rfl)]
                  intro x hb hd K hk
                  clear hd
                  go_wp2_with fail
                  exact hk _ _ rfl trivial (Below.refl _ _)
                rintro _ rfl
                simp only [Act.put, List.setIfInBounds_toArray, List.set_cons_succ, List.set_cons_zero]
                refine ⟨?_, ?_⟩
                focus
                  unfold opGoal
                  rw [if_pos (by kernel_rfl)]
                  intro x hb hd K hk
                  clear hd
                  go_wp2_with fail
                  exact hk _ _ rfl trivial (Below.refl _ _)
                rintro _ rfl
                simp only [Act.put, List.setIfInBounds_toArray, List.set_cons_succ, List.set_cons_zero]
                refine ⟨?_, ?_⟩
                focus
                  unfold opGoal
                  rw [if_pos (by kernel_rfl)]
                  intro x hb hd K hk
                  clear hd
                  go_wp2_with fail
                  exact hk _ _ rfl trivial (Below.refl _ _)
                rintro _ rfl
                simp only [Act.put, List.setIfInBounds_toArray, List.set_cons_succ, List.set_cons_zero]
                refine ⟨?_, ?_⟩
                focus
                  unfold opGoal
                  rw [if_pos (by kernel_rfl)]
                  intro x hb hd K hk
                  clear hd
                  have l0 := cell_keep hb cF
                  go_wp2_with fail
                  exact hk _ _ rfl trivial (Below.refl _ _)
                rintro _ rfl
                simp only [Act.put, List.setIfInBounds_toArray, List.set_cons_succ, List.set_cons_zero]
                refine ⟨?_, ?_⟩
                focus
                  unfold opGoal
                  rw [if_pos (by kernel_rfl)]
                  intro x hb hd K hk
                  clear hd
                  go_wp2_with fail
                  exact hk _ _ rfl trivial (Below.refl _ _)
                rintro _ rfl
                simp only [Act.put, List.setIfInBounds_toArray, List.set_cons_succ, List.set_cons_zero]
                refine ⟨?_, ?_⟩
                focus
                  unfold opGoal
                  rw [if_pos (by kernel_rfl)]
                  intro x hb hd K hk
                  clear hd
                  go_wp2_with fail
                  exact hk _ _ rfl trivial (Below.refl _ _)
                rintro _ rfl
                simp only [Act.put, List.setIfInBounds_toArray, List.set_cons_succ, List.set_cons_zero]
                refine ⟨?_, ?_⟩
                focus
                  unfold opGoal
                  rw [if_pos (by kernel_rfl)]
                  intro x hb hd K hk
                  clear hd
                  go_wp2_with fail
                  exact hk _ _ rfl trivial (Below.refl _ _)
                rintro _ rfl
                simp only [Act.put, List.setIfInBounds_toArray, List.set_cons_succ, List.set_cons_zero]
                intro wx hbx _
                go_wp2_with fail
                go_roundw
                case rel => exact ⟨m + 1, by omega, by go_num, congrArg Value.bool (by rw [HN.out]; rfl), hb.trans (hbx.mono hb.size)⟩
                case measure => simp [intOf]; omega
            · obtain rfl : m = L.length := by omega
              clear hltm hm
              have hfm : f ∈ F := by rw [HF.out]; exact List.getElem_mem _
              obtain ⟨hfl, hff⟩ := (HMEM.out f).1 hfm
              have hany : (L.take L.length).any (· == f) = true := by rw [List.take_length, List.any_eq_true]; exact ⟨f, hfl, by simp⟩
              rw [hany]
              have HX := Lib.hid (And.intro hfl hff)
              clear hany hfm hfl hff
              have cF := (hrf.below hb).str hlt
              rw [← HF.out] at cF
              have CM := Lib.hid (show ∀ W, Calls Try.prog 11 #[.string ⟨P.toArray⟩, .string ⟨f.toArray⟩] W (Ret W (.bool true)) from fun W =>
                (match_any ⟨P.toArray⟩ ⟨f.toArray⟩ W (by simp [ByteArray.size]; omega) (by have := HL.out f HX.out.1; simp [ByteArray.size]; omega)).mono fun _ _ h => h.eq (congrArg Value.bool (by
                  have h2 := HX.out.2
                  unfold isFile at h2
                  rw [Bool.and_eq_true] at h2
                  exact h2.1)))
              go_upto_region 18 with (fail)
              by_cases hk0 : k = 0
              · have hkb : decide ((0 : Int) < (k : Int)) = false := decide_eq_false (by omega)
                clear hk0
                refine wp_region_rel [eqT (.bool true), eqT (.bool false), eqT (.bool false), eqT (.int .i64 k), eqT (.bool false), eqT (.bool false), eqT undef, eqT undef, eqT undef, eqT undef, eqT undef, eqT undef, eqT undef, eqT undef, eqT undef, eqT undef, eqT (.bool false), eqT (.bool false), eqT (.bool false), eqT (.string ⟨P.toArray⟩), eqT (.slice (some ⟨bF, oF, none⟩) F.length c2), eqT (.int .i64 k), eqT (.pointer (some ⟨bF, oF + k, none⟩)), eqT (.string ⟨f.toArray⟩), eqT (.bool true), eqT (.bool false), eqT (.bool false)] (by kernel_rfl) (by kernel_rfl) rfl ?_
                refine ⟨?_, ?_⟩
                focus
                  unfold opGoal
                  rw [if_pos (by kernel_rfl)]
                  intro x hb hd K hk
                  clear hd
                  go_wp2_with fail
                  exact hk _ _ rfl trivial (Below.refl _ _)
                rintro _ rfl
                simp only [Act.put, List.setIfInBounds_toArray, List.set_cons_succ, List.set_cons_zero]
                refine ⟨?_, ?_⟩
                focus
                  unfold opGoal
                  rw [if_pos (by kernel_rfl)]
                  intro x hb hd K hk
                  clear hd
                  go_wp2_with fail
                  exact hk _ _ rfl trivial (Below.refl _ _)
                rintro _ rfl
                simp only [Act.put, List.setIfInBounds_toArray, List.set_cons_succ, List.set_cons_zero]
                refine ⟨?_, ?_⟩
                focus
                  unfold opGoal
                  rw [if_pos (by kernel_rfl)]
                  intro x hb hd K hk
                  clear hd
                  go_wp2_with fail
                  exact hk _ _ rfl trivial (Below.refl _ _)
                rintro _ rfl
                simp only [Act.put, List.setIfInBounds_toArray, List.set_cons_succ, List.set_cons_zero]
                refine ⟨?_, ?_⟩
                focus
                  unfold opGoal
                  rw [if_pos (by kernel_rfl)]
                  intro x hb hd K hk
                  clear hd
                  go_wp2_with fail
                  exact hk _ _ rfl trivial (Below.refl _ _)
                rintro _ rfl
                simp only [Act.put, List.setIfInBounds_toArray, List.set_cons_succ, List.set_cons_zero]
                refine ⟨?_, ?_⟩
                · unfold opGoal
                  rw [if_pos (by kernel_rfl)]
                  intro x hb hd K hk
                  clear hd
                  go_wp2_with fail
                  first | exact hk _ _ rfl trivial (Below.refl _ _) | exact hk _ _ (congrArg Value.bool (decide_eq_false (by simp only [decide_eq_false_iff_not] at hkb; omega))) trivial (Below.refl _ _)
                rintro _ rfl
                simp only [Act.put, List.setIfInBounds_toArray, List.set_cons_succ, List.set_cons_zero]
                refine ⟨?_, ?_⟩
                focus
                  unfold opGoal
                  rw [if_pos (by kernel_rfl)]
                  intro x hb hd K hk
                  clear hd
                  go_wp2_with fail
                  exact hk _ _ rfl trivial (Below.refl _ _)
                rintro _ rfl
                simp only [Act.put, List.setIfInBounds_toArray, List.set_cons_succ, List.set_cons_zero]
                refine ⟨?_, ?_⟩
                focus
                  unfold opGoal
                  rw [if_neg (not_true (by kernel_rfl))]
                  exact ⟨rfl, fun _ => trivial⟩
                rintro _ rfl
                simp only [Act.put, List.setIfInBounds_toArray, List.set_cons_succ, List.set_cons_zero]
                refine ⟨?_, ?_⟩
                focus
                  unfold opGoal
                  rw [if_neg (not_true (by kernel_rfl))]
                  exact ⟨rfl, fun _ => trivial⟩
                rintro _ rfl
                simp only [Act.put, List.setIfInBounds_toArray, List.set_cons_succ, List.set_cons_zero]
                refine ⟨?_, ?_⟩
                focus
                  unfold opGoal
                  rw [if_neg (not_true (by kernel_rfl))]
                  exact ⟨rfl, fun _ => trivial⟩
                rintro _ rfl
                simp only [Act.put, List.setIfInBounds_toArray, List.set_cons_succ, List.set_cons_zero]
                refine ⟨?_, ?_⟩
                focus
                  unfold opGoal
                  rw [if_neg (not_true (by kernel_rfl))]
                  exact ⟨rfl, fun _ => trivial⟩
                rintro _ rfl
                simp only [Act.put, List.setIfInBounds_toArray, List.set_cons_succ, List.set_cons_zero]
                refine ⟨?_, ?_⟩
                focus
                  unfold opGoal
                  rw [if_neg (not_true (by kernel_rfl))]
                  exact ⟨rfl, fun _ => trivial⟩
                rintro _ rfl
                simp only [Act.put, List.setIfInBounds_toArray, List.set_cons_succ, List.set_cons_zero]
                refine ⟨?_, ?_⟩
                focus
                  unfold opGoal
                  rw [if_neg (not_true (by kernel_rfl))]
                  exact ⟨rfl, fun _ => trivial⟩
                rintro _ rfl
                simp only [Act.put, List.setIfInBounds_toArray, List.set_cons_succ, List.set_cons_zero]
                refine ⟨?_, ?_⟩
                focus
                  unfold opGoal
                  rw [if_neg (not_true (by kernel_rfl))]
                  exact ⟨rfl, fun _ => trivial⟩
                rintro _ rfl
                simp only [Act.put, List.setIfInBounds_toArray, List.set_cons_succ, List.set_cons_zero]
                refine ⟨?_, ?_⟩
                focus
                  unfold opGoal
                  rw [if_neg (not_true (by kernel_rfl))]
                  exact ⟨rfl, fun _ => trivial⟩
                rintro _ rfl
                simp only [Act.put, List.setIfInBounds_toArray, List.set_cons_succ, List.set_cons_zero]
                refine ⟨?_, ?_⟩
                focus
                  unfold opGoal
                  rw [if_neg (not_true (by kernel_rfl))]
                  exact ⟨rfl, fun _ => trivial⟩
                rintro _ rfl
                simp only [Act.put, List.setIfInBounds_toArray, List.set_cons_succ, List.set_cons_zero]
                refine ⟨?_, ?_⟩
                focus
                  unfold opGoal
                  rw [if_neg (not_true (by kernel_rfl))]
                  exact ⟨rfl, fun _ => trivial⟩
                rintro _ rfl
                simp only [Act.put, List.setIfInBounds_toArray, List.set_cons_succ, List.set_cons_zero]
                refine ⟨?_, ?_⟩
                focus
                  unfold opGoal
                  rw [if_pos (by kernel_rfl)]
                  intro x hb hd K hk
                  clear hd
                  go_wp2_with fail
                  exact hk _ _ rfl trivial (Below.refl _ _)
                rintro _ rfl
                simp only [Act.put, List.setIfInBounds_toArray, List.set_cons_succ, List.set_cons_zero]
                refine ⟨?_, ?_⟩
                focus
                  unfold opGoal
                  rw [if_pos (by kernel_rfl)]
                  intro x hb hd K hk
                  clear hd
                  go_wp2_with fail
                  exact hk _ _ rfl trivial (Below.refl _ _)
                rintro _ rfl
                simp only [Act.put, List.setIfInBounds_toArray, List.set_cons_succ, List.set_cons_zero]
                refine ⟨?_, ?_⟩
                focus
                  unfold opGoal
                  rw [if_pos (by kernel_rfl)]
                  intro x hb hd K hk
                  clear hd
                  go_wp2_with fail
                  exact hk _ _ rfl trivial (Below.refl _ _)
                rintro _ rfl
                simp only [Act.put, List.setIfInBounds_toArray, List.set_cons_succ, List.set_cons_zero]
                refine ⟨?_, ?_⟩
                focus
                  unfold opGoal
                  rw [if_pos (by kernel_rfl)]
                  intro x hb hd K hk
                  clear hd
                  go_wp2_with fail
                  exact hk _ _ rfl trivial (Below.refl _ _)
                rintro _ rfl
                simp only [Act.put, List.setIfInBounds_toArray, List.set_cons_succ, List.set_cons_zero]
                refine ⟨?_, ?_⟩
                focus
                  unfold opGoal
                  rw [if_pos (by kernel_rfl)]
                  intro x hb hd K hk
                  clear hd
                  go_wp2_with fail
                  exact hk _ _ rfl trivial (Below.refl _ _)
                rintro _ rfl
                simp only [Act.put, List.setIfInBounds_toArray, List.set_cons_succ, List.set_cons_zero]
                refine ⟨?_, ?_⟩
                focus
                  unfold opGoal
                  rw [if_pos (by kernel_rfl)]
                  intro x hb hd K hk
                  clear hd
                  go_wp2_with fail
                  exact hk _ _ rfl trivial (Below.refl _ _)
                rintro _ rfl
                simp only [Act.put, List.setIfInBounds_toArray, List.set_cons_succ, List.set_cons_zero]
                refine ⟨?_, ?_⟩
                focus
                  unfold opGoal
                  rw [if_pos (by kernel_rfl)]
                  intro x hb hd K hk
                  clear hd
                  go_wp2_with fail
                  exact hk _ _ rfl trivial (Below.refl _ _)
                rintro _ rfl
                simp only [Act.put, List.setIfInBounds_toArray, List.set_cons_succ, List.set_cons_zero]
                refine ⟨?_, ?_⟩
                focus
                  unfold opGoal
                  rw [if_pos (by kernel_rfl)]
                  intro x hb hd K hk
                  clear hd
                  have l0 := cell_keep hb cF
                  go_wp2_with fail
                  exact hk _ _ rfl trivial (Below.refl _ _)
                rintro _ rfl
                simp only [Act.put, List.setIfInBounds_toArray, List.set_cons_succ, List.set_cons_zero]
                refine ⟨?_, ?_⟩
                focus
                  unfold opGoal
                  rw [if_pos (by kernel_rfl)]
                  intro x hb hd K hk
                  clear hd
                  go_wp2_with fail
                  refine (Hid.out CM x).mono ?_
                  rintro e x' ⟨rfl, hb'⟩
                  exact hk _ _ rfl trivial hb'
                rintro _ rfl
                simp only [Act.put, List.setIfInBounds_toArray, List.set_cons_succ, List.set_cons_zero]
                refine ⟨?_, ?_⟩
                focus
                  unfold opGoal
                  rw [if_pos (by kernel_rfl)]
                  intro x hb hd K hk
                  clear hd
                  go_wp2_with fail
                  exact hk _ _ rfl trivial (Below.refl _ _)
                rintro _ rfl
                simp only [Act.put, List.setIfInBounds_toArray, List.set_cons_succ, List.set_cons_zero]
                refine ⟨?_, ?_⟩
                focus
                  unfold opGoal
                  rw [if_pos (by kernel_rfl)]
                  intro x hb hd K hk
                  clear hd
                  go_wp2_with fail
                  exact hk _ _ rfl trivial (Below.refl _ _)
                rintro _ rfl
                simp only [Act.put, List.setIfInBounds_toArray, List.set_cons_succ, List.set_cons_zero]
                intro wx hbx _
                go_wp2_with fail
                go_roundw
                case rel => exact ⟨k + 1, by omega, by go_num, hb.trans (hbx.mono hb.size)⟩
                case measure => simp [intOf]; omega
              · obtain ⟨j, rfl⟩ : ∃ j, k = j + 1 := ⟨k - 1, by omega⟩
                have hjl : j < F.length := by omega
                have cE := (hrf.below hb).str hjl
                obtain ⟨d, hd0⟩ : ∃ d, d = F[j] := ⟨_, rfl⟩
                rw [← hd0] at cE
                have HDF := Lib.hid (show d < f by rw [hd0, HF.out]; exact List.pairwise_iff_getElem.1 HSP.out j (j + 1) hjl hlt (Nat.lt_succ_self j))
                clear hd0 hk0
                refine wp_region_rel [eqT (.bool true), eqT (.bool false), eqT (.bool false), eqT (.int .i64 ((j : Int) + 1)), eqT (.bool true), eqT (.bool true), eqT (.slice (some ⟨bF, oF, none⟩) F.length c2), eqT (.int .i64 ((j : Int) + 1)), eqT (.int .i64 j), eqT (.pointer (some ⟨bF, oF + j, none⟩)), eqT (.string ⟨d.toArray⟩), eqT (.slice (some ⟨bF, oF, none⟩) F.length c2), eqT (.int .i64 ((j : Int) + 1)), eqT (.pointer (some ⟨bF, oF + (j + 1), none⟩)), eqT (.string ⟨f.toArray⟩), eqT (.bool false), eqT (.bool false), eqT (.bool false), eqT (.bool false), eqT (.string ⟨P.toArray⟩), eqT (.slice (some ⟨bF, oF, none⟩) F.length c2), eqT (.int .i64 ((j : Int) + 1)), eqT (.pointer (some ⟨bF, oF + (j + 1), none⟩)), eqT (.string ⟨f.toArray⟩), eqT (.bool true), eqT (.bool false), eqT (.bool false)] (by kernel_rfl) (by kernel_rfl) rfl ?_
                refine ⟨?_, ?_⟩
                focus
                  unfold opGoal
                  rw [if_pos (by kernel_rfl)]
                  intro x hb hd K hk
                  clear hd
                  go_wp2_with fail
                  exact hk _ _ rfl trivial (Below.refl _ _)
                rintro _ rfl
                simp only [Act.put, List.setIfInBounds_toArray, List.set_cons_succ, List.set_cons_zero]
                refine ⟨?_, ?_⟩
                focus
                  unfold opGoal
                  rw [if_pos (by kernel_rfl)]
                  intro x hb hd K hk
                  clear hd
                  go_wp2_with fail
                  exact hk _ _ rfl trivial (Below.refl _ _)
                rintro _ rfl
                simp only [Act.put, List.setIfInBounds_toArray, List.set_cons_succ, List.set_cons_zero]
                refine ⟨?_, ?_⟩
                focus
                  unfold opGoal
                  rw [if_pos (by kernel_rfl)]
                  intro x hb hd K hk
                  clear hd
                  go_wp2_with fail
                  exact hk _ _ rfl trivial (Below.refl _ _)
                rintro _ rfl
                simp only [Act.put, List.setIfInBounds_toArray, List.set_cons_succ, List.set_cons_zero]
                refine ⟨?_, ?_⟩
                focus
                  unfold opGoal
                  rw [if_pos (by kernel_rfl)]
                  intro x hb hd K hk
                  clear hd
                  go_wp2_with fail
                  exact hk _ _ rfl trivial (Below.refl _ _)
                rintro _ rfl
                simp only [Act.put, List.setIfInBounds_toArray, List.set_cons_succ, List.set_cons_zero]
                refine ⟨?_, ?_⟩
                · unfold opGoal
                  rw [if_pos (by kernel_rfl)]
                  intro x hb hd K hk
                  clear hd
                  go_wp2_with fail
                  first | exact hk _ _ rfl trivial (Below.refl _ _) | exact hk _ _ (congrArg Value.bool (decide_eq_true (by omega))) trivial (Below.refl _ _)
                rintro _ rfl
                simp only [Act.put, List.setIfInBounds_toArray, List.set_cons_succ, List.set_cons_zero]
                refine ⟨?_, ?_⟩
                focus
                  unfold opGoal
                  rw [if_pos (by kernel_rfl)]
                  intro x hb hd K hk
                  clear hd
                  go_wp2_with fail
                  exact hk _ _ rfl trivial (Below.refl _ _)
                rintro _ rfl
                simp only [Act.put, List.setIfInBounds_toArray, List.set_cons_succ, List.set_cons_zero]
                refine ⟨?_, ?_⟩
                focus
                  unfold opGoal
                  rw [if_pos (by kernel_rfl)]
                  intro x hb hd K hk
                  clear hd
                  go_wp2_with fail
                  exact hk _ _ rfl trivial (Below.refl _ _)
                rintro _ rfl
                simp only [Act.put, List.setIfInBounds_toArray, List.set_cons_succ, List.set_cons_zero]
                refine ⟨?_, ?_⟩
                focus
                  unfold opGoal
                  rw [if_pos (by kernel_rfl)]
                  intro x hb hd K hk
                  clear hd
                  go_wp2_with fail
                  exact hk _ _ rfl trivial (Below.refl _ _)
                rintro _ rfl
                simp only [Act.put, List.setIfInBounds_toArray, List.set_cons_succ, List.set_cons_zero]
                refine ⟨?_, ?_⟩
                · unfold opGoal
                  rw [if_pos (by kernel_rfl)]
                  intro x hb hd K hk
                  clear hd
                  go_wp2_with fail
                  first | exact hk _ _ rfl trivial (Below.refl _ _) | exact hk _ _ (congrArg (Value.int .i64) (by omega)) trivial (Below.refl _ _)
                rintro _ rfl
                simp only [Act.put, List.setIfInBounds_toArray, List.set_cons_succ, List.set_cons_zero]
                refine ⟨?_, ?_⟩
                focus
                  unfold opGoal
                  rw [if_pos (by kernel_rfl)]
                  intro x hb hd K hk
                  clear hd
                  go_wp2_with fail
                  exact hk _ _ rfl trivial (Below.refl _ _)
                rintro _ rfl
                simp only [Act.put, List.setIfInBounds_toArray, List.set_cons_succ, List.set_cons_zero]
                refine ⟨?_, ?_⟩
                focus
                  unfold opGoal
                  rw [if_pos (by kernel_rfl)]
                  intro x hb hd K hk
                  clear hd
                  have l0 := cell_keep hb cE
                  go_wp2_with fail
                  exact hk _ _ rfl trivial (Below.refl _ _)
                rintro _ rfl
                simp only [Act.put, List.setIfInBounds_toArray, List.set_cons_succ, List.set_cons_zero]
                refine ⟨?_, ?_⟩
                focus
                  unfold opGoal
                  rw [if_pos (by kernel_rfl)]
                  intro x hb hd K hk
                  clear hd
                  go_wp2_with fail
                  exact hk _ _ rfl trivial (Below.refl _ _)
                rintro _ rfl
                simp only [Act.put, List.setIfInBounds_toArray, List.set_cons_succ, List.set_cons_zero]
                refine ⟨?_, ?_⟩
                focus
                  unfold opGoal
                  rw [if_pos (by kernel_rfl)]
                  intro x hb hd K hk
                  clear hd
                  go_wp2_with fail
                  exact hk _ _ rfl trivial (Below.refl _ _)
                rintro _ rfl
                simp only [Act.put, List.setIfInBounds_toArray, List.set_cons_succ, List.set_cons_zero]
                refine ⟨?_, ?_⟩
                focus
                  unfold opGoal
                  rw [if_pos (by kernel_rfl)]
                  intro x hb hd K hk
                  clear hd
                  go_wp2_with fail
                  exact hk _ _ rfl trivial (Below.refl _ _)
                rintro _ rfl
                simp only [Act.put, List.setIfInBounds_toArray, List.set_cons_succ, List.set_cons_zero]
                refine ⟨?_, ?_⟩
                focus
                  unfold opGoal
                  rw [if_pos (by kernel_rfl)]
                  intro x hb hd K hk
                  clear hd
                  have l0 := cell_keep hb cF
                  go_wp2_with fail
                  exact hk _ _ rfl trivial (Below.refl _ _)
                rintro _ rfl
                simp only [Act.put, List.setIfInBounds_toArray, List.set_cons_succ, List.set_cons_zero]
                refine ⟨?_, ?_⟩
                · unfold opGoal
                  rw [if_pos (by kernel_rfl)]
                  intro x hb hd K hk
                  clear hd
                  go_wp2_with fail
                  exact hk _ _ (congrArg Value.bool (by rw [bytesLess_eq, decide_eq_true HDF.out]; rfl)) trivial (Below.refl _ _)
                rintro _ rfl
                simp only [Act.put, List.setIfInBounds_toArray, List.set_cons_succ, List.set_cons_zero]
                refine ⟨?_, ?_⟩
                focus
                  unfold opGoal
                  rw [if_pos (by kernel_rfl)]
                  intro x hb hd K hk
                  clear hd
                  go_wp2_with fail
                  exact hk _ _ rfl trivial (Below.refl _ _)
                rintro _ rfl
                simp only [Act.put, List.setIfInBounds_toArray, List.set_cons_succ, List.set_cons_zero]
                refine ⟨?_, ?_⟩
                focus
                  unfold opGoal
                  rw [if_pos (by kernel_rfl)]
                  intro x hb hd K hk
                  clear hd
                  go_wp2_with fail
                  exact hk _ _ rfl trivial (Below.refl _ _)
                rintro _ rfl
                simp only [Act.put, List.setIfInBounds_toArray, List.set_cons_succ, List.set_cons_zero]
                refine ⟨?_, ?_⟩
                focus
                  unfold opGoal
                  rw [if_pos (by kernel_rfl)]
                  intro x hb hd K hk
                  clear hd
                  go_wp2_with fail
                  exact hk _ _ rfl trivial (Below.refl _ _)
                rintro _ rfl
                simp only [Act.put, List.setIfInBounds_toArray, List.set_cons_succ, List.set_cons_zero]
                refine ⟨?_, ?_⟩
                focus
                  unfold opGoal
                  rw [if_pos (by kernel_rfl)]
                  intro x hb hd K hk
                  clear hd
                  go_wp2_with fail
                  exact hk _ _ rfl trivial (Below.refl _ _)
                rintro _ rfl
                simp only [Act.put, List.setIfInBounds_toArray, List.set_cons_succ, List.set_cons_zero]
                refine ⟨?_, ?_⟩
                focus
                  unfold opGoal
                  rw [if_pos (by kernel_rfl)]
                  intro x hb hd K hk
                  clear hd
                  go_wp2_with fail
                  exact hk _ _ rfl trivial (Below.refl _ _)
                rintro _ rfl
                simp only [Act.put, List.setIfInBounds_toArray, List.set_cons_succ, List.set_cons_zero]
                refine ⟨?_, ?_⟩
                focus
                  unfold opGoal
                  rw [if_pos (by kernel_rfl)]
                  intro x hb hd K hk
                  clear hd
                  go_wp2_with fail
                  exact hk _ _ rfl trivial (Below.refl _ _)
                rintro _ rfl
                simp only [Act.put, List.setIfInBounds_toArray, List.set_cons_succ, List.set_cons_zero]
                refine ⟨?_, ?_⟩
                focus
                  unfold opGoal
                  rw [if_pos (by kernel_rfl)]
                  intro x hb hd K hk
                  clear hd
                  go_wp2_with fail
                  exact hk _ _ rfl trivial (Below.refl _ _)
                rintro _ rfl
                simp only [Act.put, List.setIfInBounds_toArray, List.set_cons_succ, List.set_cons_zero]
                refine ⟨?_, ?_⟩
                focus
                  unfold opGoal
                  rw [if_pos (by kernel_rfl)]
                  intro x hb hd K hk
                  clear hd
                  have l0 := cell_keep hb cF
                  go_wp2_with fail
                  exact hk _ _ rfl trivial (Below.refl _ _)
                rintro _ rfl
                simp only [Act.put, List.setIfInBounds_toArray, List.set_cons_succ, List.set_cons_zero]
                refine ⟨?_, ?_⟩
                focus
                  unfold opGoal
                  rw [if_pos (by kernel_rfl)]
                  intro x hb hd K hk
                  clear hd
                  go_wp2_with fail
                  refine (Hid.out CM x).mono ?_
                  rintro e x' ⟨rfl, hb'⟩
                  exact hk _ _ rfl trivial hb'
                rintro _ rfl
                simp only [Act.put, List.setIfInBounds_toArray, List.set_cons_succ, List.set_cons_zero]
                refine ⟨?_, ?_⟩
                focus
                  unfold opGoal
                  rw [if_pos (by kernel_rfl)]
                  intro x hb hd K hk
                  clear hd
                  go_wp2_with fail
                  exact hk _ _ rfl trivial (Below.refl _ _)
                rintro _ rfl
                simp only [Act.put, List.setIfInBounds_toArray, List.set_cons_succ, List.set_cons_zero]
                refine ⟨?_, ?_⟩
                focus
                  unfold opGoal
                  rw [if_pos (by kernel_rfl)]
                  intro x hb hd K hk
                  clear hd
                  go_wp2_with fail
                  exact hk _ _ rfl trivial (Below.refl _ _)
                rintro _ rfl
                simp only [Act.put, List.setIfInBounds_toArray, List.set_cons_succ, List.set_cons_zero]
                intro wx hbx _
                go_wp2_with fail
                go_roundw
                case rel => exact ⟨j + 1 + 1, by omega, by go_num, hb.trans (hbx.mono hb.size)⟩
                case measure => simp [intOf]; omega
        · obtain rfl : k = F.length := by omega
          clear hlt hk
          go_wp2_with fail
          go_loopw [11] (fun i wr' => ∃ k : Nat, k ≤ L.length ∧ i = .int .i64 k ∧ Below w2.heap.size w2 wr') (fun i _ => L.length - (intOf i).toNat)
          case atStart => exact ⟨0, Nat.zero_le _, rfl, hb⟩
          case round =>
            clear hb
            obtain ⟨k, hk, rfl, hb⟩ := hrel
            by_cases hlt : k < L.length
            · obtain ⟨bL, oL, rfl, _, _⟩ := hrd k hlt
              obtain ⟨x, hx⟩ : ∃ x, x = L[k] := ⟨_, rfl⟩
              have HX := Lib.hid hx
              clear hx
              go_wp2_with fail
              go_loopw [12, 13] (fun g i wr' => ∃ m : Nat, m ≤ F.length ∧ i = .int .i64 m ∧ g = .bool ((F.take m).any (· == x)) ∧ Below w2.heap.size w2 wr')
                (fun g i _ => F.length - (intOf i).toNat)
              case atStart => exact ⟨0, Nat.zero_le _, rfl, by simp, hb⟩
              case round =>
                clear hb
                obtain ⟨m, hm, rfl, rfl, hb⟩ := hrel
                by_cases hltm : m < F.length
                · obtain ⟨bF, oF, rfl, _, _⟩ := hrf m hltm
                  have cL := (hrd.below hb).str hlt
                  have cF := (hrf.below hb).str hltm
                  rw [← HX.out] at cL
                  obtain ⟨f, hf⟩ : ∃ f, f = F[m] := ⟨_, rfl⟩
                  rw [← hf] at cF
                  obtain ⟨g, hg⟩ : ∃ g, g = (F.take m).any (· == x) := ⟨_, rfl⟩
                  rw [← hg]
                  have HN := Lib.hid (show (F.take (m + 1)).any (· == x) = (g || (f == x)) by rw [List.take_succ_eq_append_getElem hltm, List.any_append, hg, hf]; simp)
                  clear hf hg
                  go_upto_region 27 with (fail)
                  cases g with
                  | true =>
                    refine wp_region_rel [eqT (.bool true), eqT (.bool true), eqT undef, eqT undef, eqT undef, eqT undef, eqT undef, eqT undef, eqT undef, eqT undef, eqT undef, eqT (.bool true), eqT (.bool true)] (by kernel_rfl) (by kernel_rfl) rfl ?_
                    refine ⟨?_, ?_⟩
                    focus
                      unfold opGoal
                      rw [if_pos (by kernel_rfl)]
                      intro x hb hd K hk
                      clear hd
                      go_wp2_with fail
                      exact hk _ _ rfl trivial (Below.refl _ _)
                    rintro _ rfl
                    simp only [Act.put, List.setIfInBounds_toArray, List.set_cons_succ, List.set_cons_zero]
                    refine ⟨?_, ?_⟩
                    focus
                      unfold opGoal
                      rw [if_pos (by kernel_rfl)]
                      intro x hb hd K hk
                      clear hd
                      go_wp2_with fail
                      exact hk _ _ rfl trivial (Below.refl _ _)
                    rintro _ rfl
                    simp only [Act.put, List.setIfInBounds_toArray, List.set_cons_succ, List.set_cons_zero]
                    refine ⟨?_, ?_⟩
                    focus
                      unfold opGoal
                      rw [if_neg (not_true (by kernel_rfl))]
                      exact ⟨rfl, fun _ => trivial⟩
                    rintro _ rfl
                    simp only [Act.put, List.setIfInBounds_toArray, List.set_cons_succ, List.set_cons_zero]
                    refine ⟨?_, ?_⟩
                    focus
                      unfold opGoal
                      rw [if_neg (not_true (by kernel_rfl))]
                      exact ⟨rfl, fun _ => trivial⟩
                    rintro _ rfl
                    simp only [Act.put, List.setIfInBounds_toArray, List.set_cons_succ, List.set_cons_zero]
                    refine ⟨?_, ?_⟩
                    focus
                      unfold opGoal
                      rw [if_neg (not_true (by kernel_rfl))]
                      exact ⟨rfl, fun _ => trivial⟩
                    rintro _ rfl
                    simp only [Act.put, List.setIfInBounds_toArray, List.set_cons_succ, List.set_cons_zero]
                    refine ⟨?_, ?_⟩
                    focus
                      unfold opGoal
                      rw [if_neg (not_true (by kernel_rfl))]
                      exact ⟨rfl, fun _ => trivial⟩
                    rintro _ rfl
                    simp only [Act.put, List.setIfInBounds_toArray, List.set_cons_succ, List.set_cons_zero]
                    refine ⟨?_, ?_⟩
                    focus
                      unfold opGoal
                      rw [if_neg (not_true (by kernel_rfl))]
                      exact ⟨rfl, fun _ => trivial⟩
                    rintro _ rfl
                    simp only [Act.put, List.setIfInBounds_toArray, List.set_cons_succ, List.set_cons_zero]
                    refine ⟨?_, ?_⟩
                    focus
                      unfold opGoal
                      rw [if_neg (not_true (by kernel_rfl))]
                      exact ⟨rfl, fun _ => trivial⟩
                    rintro _ rfl
                    simp only [Act.put, List.setIfInBounds_toArray, List.set_cons_succ, List.set_cons_zero]
                    refine ⟨?_, ?_⟩
                    focus
                      unfold opGoal
                      rw [if_neg (not_true (by kernel_rfl))]
                      exact ⟨rfl, fun _ => trivial⟩
                    rintro _ rfl
                    simp only [Act.put, List.setIfInBounds_toArray, List.set_cons_succ, List.set_cons_zero]
                    refine ⟨?_, ?_⟩
                    focus
                      unfold opGoal
                      rw [if_neg (not_true (by kernel_rfl))]
                      exact ⟨rfl, fun _ => trivial⟩
                    rintro _ rfl
                    simp only [Act.put, List.setIfInBounds_toArray, List.set_cons_succ, List.set_cons_zero]
                    refine ⟨?_, ?_⟩
                    focus
                      unfold opGoal
                      rw [if_neg (not_true (by kernel_rfl))]
                      exact ⟨rfl, fun _ => trivial⟩
                    rintro _ rfl
                    simp only [Act.put, List.setIfInBounds_toArray, List.set_cons_succ, List.set_cons_zero]
                    refine ⟨?_, ?_⟩
                    focus
                      unfold opGoal
                      rw [if_pos (by kernel_rfl)]
                      intro x hb hd K hk
                      clear hd
                      go_wp2_with fail
                      exact hk _ _ rfl trivial (Below.refl _ _)
                    rintro _ rfl
                    simp only [Act.put, List.setIfInBounds_toArray, List.set_cons_succ, List.set_cons_zero]
                    refine ⟨?_, ?_⟩
                    focus
                      unfold opGoal
                      rw [if_pos (by kernel_rfl)]
                      intro x hb hd K hk
                      clear hd
                      go_wp2_with fail
                      exact hk _ _ rfl trivial (Below.refl _ _)
                    rintro _ rfl
                    simp only [Act.put, List.setIfInBounds_toArray, List.set_cons_succ, List.set_cons_zero]
                    intro wx hbx _
                    go_wp2_with fail
                    go_roundw
                    case rel => exact ⟨m + 1, by omega, by go_num, congrArg Value.bool (by rw [HN.out]; rfl), hb.trans (hbx.mono hb.size)⟩
                    case measure => simp [intOf]; omega
                  | false =>
                    refine wp_region_rel [eqT (.bool false), eqT (.bool false), eqT (.slice (some ⟨bF, oF, none⟩) F.length c2), eqT (.int .i64 m), eqT (.pointer (some ⟨bF, oF + m, none⟩)), eqT (.string ⟨f.toArray⟩), eqT (.slice (some ⟨bL, oL, none⟩) L.length cp), eqT (.int .i64 k), eqT (.pointer (some ⟨bL, oL + k, none⟩)), eqT (.string ⟨x.toArray⟩), eqT (.bool (f == x)), eqT (.bool (f == x)), eqT (.bool (f == x))] (by kernel_rfl) (by kernel_rfl) rfl ?_
                    refine ⟨?_, ?_⟩
                    focus
                      unfold opGoal
                      rw [if_pos (by kernel_rfl)]
                      intro x hb hd K hk
                      clear hd
                      go_wp2_with fail
                      exact hk _ _ rfl trivial (Below.refl _ _)
                    rintro _ rfl
                    simp only [Act.put, List.setIfInBounds_toArray, List.set_cons_succ, List.set_cons_zero]
                    refine ⟨?_, ?_⟩
                    focus
                      unfold opGoal
                      rw [if_pos (by kernel_rfl)]
                      intro x hb hd K hk
                      clear hd
                      go_wp2_with fail
                      exact hk _ _ rfl trivial (Below.refl _ _)
                    rintro _ rfl
                    simp only [Act.put, List.setIfInBounds_toArray, List.set_cons_succ, List.set_cons_zero]
                    refine ⟨?_, ?_⟩
                    focus
                      unfold opGoal
                      rw [if_pos (by kernel_rfl)]
                      intro x hb hd K hk
                      clear hd
                      go_wp2_with fail
                      exact hk _ _ rfl trivial (Below.refl _ _)
                    rintro _ rfl
                    simp only [Act.put, List.setIfInBounds_toArray, List.set_cons_succ, List.set_cons_zero]
                    refine ⟨?_, ?_⟩
                    focus
                      unfold opGoal
                      rw [if_pos (by kernel_rfl)]
                      intro x hb hd K hk
                      clear hd
                      go_wp2_with fail
                      exact hk _ _ rfl trivial (Below.refl _ _)
                    rintro _ rfl
                    simp only [Act.put, List.setIfInBounds_toArray, List.set_cons_succ, List.set_cons_zero]
                    refine ⟨?_, ?_⟩
                    focus
                      unfold opGoal
                      rw [if_pos (by kernel_rfl)]
                      intro x hb hd K hk
                      clear hd
                      go_wp2_with fail
                      exact hk _ _ rfl trivial (Below.refl _ _)
                    rintro _ rfl
                    simp only [Act.put, List.setIfInBounds_toArray, List.set_cons_succ, List.set_cons_zero]
                    refine ⟨?_, ?_⟩
                    focus
                      unfold opGoal
                      rw [if_pos (by kernel_rfl)]
                      intro x hb hd K hk
                      clear hd
                      have l0 := cell_keep hb cF
                      go_wp2_with fail
                      exact hk _ _ rfl trivial (Below.refl _ _)
                    rintro _ rfl
                    simp only [Act.put, List.setIfInBounds_toArray, List.set_cons_succ, List.set_cons_zero]
                    refine ⟨?_, ?_⟩
                    focus
                      unfold opGoal
                      rw [if_pos (by kernel_rfl)]
                      intro x hb hd K hk
                      clear hd
                      go_wp2_with fail
                      exact hk _ _ rfl trivial (Below.refl _ _)
                    rintro _ rfl
                    simp only [Act.put, List.setIfInBounds_toArray, List.set_cons_succ, List.set_cons_zero]
                    refine ⟨?_, ?_⟩
                    focus
                      unfold opGoal
                      rw [if_pos (by kernel_rfl)]
                      intro x hb hd K hk
                      clear hd
                      go_wp2_with fail
                      exact hk _ _ rfl trivial (Below.refl _ _)
                    rintro _ rfl
                    simp only [Act.put, List.setIfInBounds_toArray, List.set_cons_succ, List.set_cons_zero]
                    refine ⟨?_, ?_⟩
                    focus
                      unfold opGoal
                      rw [if_pos (by kernel_rfl)]
                      intro x hb hd K hk
                      clear hd
                      go_wp2_with fail
                      exact hk _ _ rfl trivial (Below.refl _ _)
                    rintro _ rfl
                    simp only [Act.put, List.setIfInBounds_toArray, List.set_cons_succ, List.set_cons_zero]
                    refine ⟨?_, ?_⟩
                    focus
                      unfold opGoal
                      rw [if_pos (by kernel_rfl)]
                      intro x hb hd K hk
                      clear hd
                      have l0 := cell_keep hb cL
                      go_wp2_with fail
                      exact hk _ _ rfl trivial (Below.refl _ _)
                    rintro _ rfl
                    simp only [Act.put, List.setIfInBounds_toArray, List.set_cons_succ, List.set_cons_zero]
                    refine ⟨?_, ?_⟩
                    focus
                      unfold opGoal
                      rw [if_pos (by kernel_rfl)]
                      intro x hb hd K hk
                      clear hd
                      go_wp2_with fail
                      exact hk _ _ rfl trivial (Below.refl _ _)
                    rintro _ rfl
                    simp only [Act.put, List.setIfInBounds_toArray, List.set_cons_succ, List.set_cons_zero]
                    refine ⟨?_, ?_⟩
                    focus
                      unfold opGoal
                      rw [if_pos (by kernel_rfl)]
                      intro x hb hd K hk
                      clear hd
                      go_wp2_with fail
                      exact hk _ _ rfl trivial (Below.refl _ _)
                    rintro _ rfl
                    simp only [Act.put, List.setIfInBounds_toArray, List.set_cons_succ, List.set_cons_zero]
                    refine ⟨?_, ?_⟩
                    focus
                      unfold opGoal
                      rw [if_pos (by kernel_rfl)]
                      intro x hb hd K hk
                      clear hd
                      go_wp2_with fail
                      exact hk _ _ rfl trivial (Below.refl _ _)
                    rintro _ rfl
                    simp only [Act.put, List.setIfInBounds_toArray, List.set_cons_succ, List.set_cons_zero]
                    intro wx hbx _
                    go_wp2_with fail
                    go_roundw
                    case rel => exact ⟨m + 1, by omega, by go_num, congrArg Value.bool (by rw [HN.out]; rfl), hb.trans (hbx.mono hb.size)⟩
                    case measure => simp [intOf]; omega
                · obtain rfl : m = F.length := by omega
                  have hin : (F.take F.length).any (· == x) = isFile P x := by
                    rw [List.take_length, Bool.eq_iff_iff, List.any_eq_true]
                    have hxl : x ∈ L := by rw [HX.out]; exact List.getElem_mem _
                    constructor
                    · rintro ⟨f, hf, he⟩
                      obtain rfl := (beq_iff_eq.1 he)
                      exact ((HMEM.out f).1 hf).2
                    · intro h
                      exact ⟨x, (HMEM.out x).2 ⟨hxl, h⟩, by simp⟩
                  rw [hin]
                  have hxs : x.length ≤ 40 := HL.out x (by rw [HX.out]; exact List.getElem_mem _)
                  have cL := (hrd.below hb).str hlt
                  rw [← HX.out] at cL
                  clear hin hltm hm
                  go_upto_region 28 with (fail)
                  go_cut [14] (fun v wx => v = .bool (dotB x && !dotB P) ∧ wr = wx)
                  case first =>
                    cases x with
                    | nil =>
                      go_wp2_with fail
                      go_meet
                      exact ⟨rfl, rfl⟩
                    | cons c t =>
                      have hc46 : ((c.toNat : Int) == 46) = (c == 46) := u8_beq c 46 (by decide)
                      have HX2 := Lib.hid (dotB_cons c t)
                      have hx0 : ∀ h, ({ data := (c :: t).toArray } : ByteArray)[0]'h = c := fun _ => rfl
                      cases hcb : (c == 46) with
                      | false =>
                        rw [hcb] at hc46 HX2
                        clear hcb
                        go_wp2_with fail
                        go_meet
                        exact ⟨congrArg Value.bool (by rw [HX2.out]; rfl), rfl⟩
                      | true =>
                        rw [hcb] at hc46 HX2
                        clear hcb
                        cases P with
                        | nil =>
                          go_wp2_with fail
                          go_meet
                          exact ⟨congrArg Value.bool (by rw [HX2.out]; rfl), rfl⟩
                        | cons d q =>
                          have hd46 : ((d.toNat : Int) == 46) = (d == 46) := u8_beq d 46 (by decide)
                          have HP2 := Lib.hid (dotB_cons d q)
                          have hd0 : ∀ h, ({ data := (d :: q).toArray } : ByteArray)[0]'h = d := fun _ => rfl
                          have hq0 : ((q.length : Int) + 1 == 0) = false := by rw [beq_eq_false_iff_ne]; omega
                          cases hdb : (d == 46) with
                          | false =>
                            rw [hdb] at hd46 HP2
                            have hd47 : ((d.toNat : Int) != 46) = true := by rw [bne, hd46]; rfl
                            clear hdb
                            go_wp2_with fail
                            go_meet
                            exact ⟨congrArg Value.bool (by rw [HX2.out, HP2.out]; rfl), rfl⟩
                          | true =>
                            rw [hdb] at hd46 HP2
                            have hd47 : ((d.toNat : Int) != 46) = false := by rw [bne, hd46]; rfl
                            clear hdb
                            go_wp2_with fail
                            go_meet
                            exact ⟨congrArg Value.bool (by rw [HX2.out, HP2.out]; rfl), rfl⟩
                  case rest =>
                  obtain ⟨rfl, rfl⟩ := hcut
                  have CM2 := Lib.hid (show ∀ W, Calls Try.prog 11 #[.string ⟨P.toArray⟩, .string ⟨x.toArray⟩] W (Ret W (.bool (matchL P x))) from fun W =>
                    match_any ⟨P.toArray⟩ ⟨x.toArray⟩ W (by simp [ByteArray.size]; omega) (by simp [ByteArray.size]; omega))
                  have HI := Lib.hid (show isFile P x = (matchL P x && (!dotB x || dotB P)) from rfl)
                  generalize isFile P x = fb at *
                  go_wp2_with fail
                  refine (CM2.out _).mono ?_
                  generalize matchL P x = mb at *
                  generalize dotB x = xb at *
                  generalize dotB P = pb at *
                  obtain rfl := HI.out
                  rintro e w3 ⟨rfl, hn⟩
                  replace hb := hb.trans (hn.mono hb.size)
                  cases mb
                  all_goals cases xb
                  all_goals cases pb
                  all_goals
                    go_wp2_with fail
                    go_roundw
                    case rel => exact ⟨k + 1, by omega, by go_num, hb⟩
                    case measure => simp [intOf]; omega
            · obtain rfl : k = L.length := by omega
              clear hlt hk
              go_wp2_with fail
              go_ret
              exact ⟨rfl, hb1.trans (hb.mono hb1.size)⟩

theorem files_walk (p : ByteArray) (A : Option Addr) (c : Nat) (L : List (List UInt8)) (w : World) (hrd : RdL w 1 (fun s : List UInt8 => [Value.string ⟨s.toArray⟩]) A L) :
    Calls Try.prog 7 #[.string p, .slice A L.length c] w fun e w' => e = .returned (.bool true) ∧ Below w.heap.size w w' :=
  files_list p.data.toList A c L w hrd
end Go.Proofs.Ytjhgljfmheopmaa
