/- The walks of Sort and Compact in one's own words, and of Files: what it answers is what matches, sorted, each once, in a row of its own. -/
import Derived.Test.YtckcpokfjofcaaaDoorPatF
import Derived.Sort.OwnSorted
import Derived.Lib.OwnBridge
set_option linter.unusedVariables false
set_option linter.unusedSimpArgs false
namespace Go.Proofs.YtckcpokfjofcaaaDoor
open Go.RowKit Go.Sort

def sortL (l : List (List UInt8)) : List (List UInt8) := l.mergeSort fun x y => decide (x ≤ y)
def dotB (s : List UInt8) : Bool := Lib.hasPrefix s [46]
def isFile (p n : List UInt8) : Bool := matchL p n && (!dotB n || dotB p)
def filesL (p : List UInt8) (l : List (List UInt8)) : List (List UInt8) := Lib.compact (sortL (l.filter (isFile p)))

theorem strc_enc (l : List (List UInt8)) : l.flatMap strc = l.map encStr := by
  induction l with
  | nil => rfl
  | cons x l ih => rw [List.flatMap_cons, ih]; rfl
theorem sortL_len (l : List (List UInt8)) : (sortL l).length = l.length := List.length_mergeSort l

theorem sort_any (base : Nat) (l : List (List UInt8)) (v : Value) (w : World) (hown : w.ownsRow base 9 1 v l.length (l.flatMap strc)) (hl : l.length ≤ 1000000) :
    Calls Tryd.prog 56 #[v] w fun e w' => e = .returned (.tuple #[]) ∧ w'.ownsRow base 9 1 v l.length ((sortL l).flatMap strc) ∧ Below base w w' := by
  rw [strc_enc] at hown
  rcases hown.2 with ⟨rfl, h0⟩ | ⟨g, cap, cur, rfl, hb, hg, hc, hm, hcs, ht⟩
  · have : l = [] := List.eq_nil_of_length_eq_zero h0
    subst this
    refine (Tryd.slices_Sort_string_none none 0 w).mono ?_
    rintro e w' ⟨rfl, rfl⟩
    rw [List.eq_nil_of_length_eq_zero (sortL_len [])]
    exact ⟨rfl, World.ownsRow_nil _ _ _ _, Below.refl _ _⟩
  · have hH : Holds encStr w g 0 l.toArray := holds_of_block hg (by rw [Nat.mul_one] at ht; exact ht)
    refine (Tryd.slices_Sort_string g 0 cap l w hH (Array.getElem?_eq_some_iff.1 hg).1 (by omega)).mono ?_
    rintro e w' ⟨rfl, n, os, rfl⟩
    refine ⟨rfl, ?_, ?_⟩
    · rw [strc_enc]
      exact ownsRow_sorted (sortL_len l) hb hg hc hm hcs
    · exact (Below.refl _ _).grown (grownBy_sorted _) (by have := (Array.getElem?_eq_some_iff.1 hg).1; omega) (fun j hj => by cases hj; exact hb)

theorem compact_any (base : Nat) (l : List (List UInt8)) (v : Value) (w : World) (hown : w.ownsRow base 9 1 v l.length (l.flatMap strc)) (hl : l.length ≤ 1000000) :
    Calls Tryd.prog 57 #[v] w fun e w' => ∃ A c, e = .returned (.slice A (Lib.compact l).length c) ∧ w'.ownsRow base 9 1 (.slice A (Lib.compact l).length c) (Lib.compact l).length ((Lib.compact l).flatMap strc) ∧ Below base w w' := by
  rw [strc_enc] at hown
  have h1 := hown
  rcases hown.2 with ⟨rfl, h0⟩ | ⟨g, cap, cur, rfl, hb, hg, hc, hm, hcs, ht⟩
  · have : l = [] := List.eq_nil_of_length_eq_zero h0
    subst this
    refine (Tryd.slices_Compact_string_empty none 0 w).mono ?_
    rintro e w' ⟨rfl, rfl⟩
    exact ⟨none, 0, rfl, World.ownsRow_nil _ _ _ _, Below.refl _ _⟩
  · have hH : Holds encStr w g 0 l.toArray := holds_of_block hg (by rw [Nat.mul_one] at ht; exact ht)
    have hle := Lib.compact_length_le l
    refine (Tryd.slices_Compact_string g 0 cap l w hH (by omega) hc).mono ?_
    rintro e w' ⟨rfl, q, rfl⟩
    refine ⟨_, _, rfl, ?_, Lib.below_putRow (Below.refl _ _) hb⟩
    rw [strc_enc]
    have hc2 := Lib.ownsRow_putRow (q := q) (k := (Lib.compact l).length) (ys := Lib.compact l ++ List.replicate (l.length - (Lib.compact l).length) []) h1 (by simp; omega) (by omega)
    rwa [List.take_left] at hc2

set_option maxHeartbeats 2000000 in
theorem files_any (p : List UInt8) (A : Option Addr) (c : Nat) (l : List (List UInt8)) (w : World) (hrd : RdL w 1 strc A l) (hp : p.length ≤ 1000000) (hl : l.length ≤ 1000000) (hs : ∀ x ∈ l, x.length ≤ 1000000) :
    Calls Tryd.prog 39 #[.string ⟨p.toArray⟩, .slice A l.length c] w (StrsRet (filesL p l) w) := by
  obtain ⟨i0, hi, hz0, hz1, hz2⟩ := info_parts infoStr
  have HS := Lib.hid hs
  clear hs
  have HP := Lib.hid (show filesL p l = Lib.compact (sortL ([] ++ (l.drop 0).filter (isFile p))) from rfl)
  have C0 := Lib.hid (show ∀ W, Calls Tryd.prog 55 #[.string ⟨p.toArray⟩, .string { data := #[46] }] W fun e w' => e = .returned (.bool (dotB p)) ∧ w' = W from fun W => Tryd.strings_HasPrefix ⟨p.toArray⟩ ⟨#[46]⟩ W)
  have C1 := Lib.hid (show ∀ (n : List UInt8) W, Calls Tryd.prog 55 #[.string ⟨n.toArray⟩, .string { data := #[46] }] W fun e w' => e = .returned (.bool (dotB n)) ∧ w' = W from fun n W => Tryd.strings_HasPrefix ⟨n.toArray⟩ ⟨#[46]⟩ W)
  go_enter Tryd.func39, Tryd.ntmps39
  go_wp2_with fail
  go_loopw [5, 10] (fun v i wr => ∃ k : Nat, ∃ done : List (List UInt8), k ≤ l.length ∧ i = .int .i64 k ∧ done.length ≤ k ∧ wr.ownsRow w.heap.size 9 1 v done.length (done.flatMap strc) ∧ Below w.heap.size w wr ∧ Hid (filesL p l = Lib.compact (sortL (done ++ (l.drop k).filter (isFile p)))))
    (fun _ i _ => l.length - (intOf i).toNat)
  case atStart => exact ⟨0, [], Nat.zero_le _, rfl, Nat.zero_le _, World.ownsRow_nil _ _ _ _, Below.refl _ _, HP.out⟩
  case round =>
    clear HP
    obtain ⟨k, done, hk, rfl, hdk, hown, hb, H⟩ := hrel
    by_cases hlt : k < l.length
    · obtain ⟨b, o, rfl, _, hcell⟩ := (hrd.below hb) k hlt
      have c0 := hcell 0 _ rfl
      have hL := H.out
      rw [List.drop_eq_getElem_cons hlt] at hL
      have hz : l[k].length ≤ 1000000 := HS.out _ (List.getElem_mem _)
      obtain ⟨z, hzz⟩ : ∃ z, z = l[k] := ⟨_, rfl⟩
      rw [← hzz] at c0 hL hz
      have HL := Lib.hid hL
      clear hL hcell H hzz
      simp only [Nat.mul_one, Nat.add_zero] at c0
      go_wp2_with fail
      refine (match_any ⟨p.toArray⟩ ⟨z.toArray⟩ _ (by simp [ByteArray.size]; omega) (by simp [ByteArray.size]; omega)).mono ?_
      show ∀ e w', Ret wr (.bool (matchL p z)) e w' → _
      cases hm : matchL p z with
      | false =>
        rintro e w2 ⟨rfl, hb2⟩
        have HN := Lib.hid (show filesL p l = Lib.compact (sortL (done ++ (l.drop (k + 1)).filter (isFile p))) by rw [HL.out, List.filter_cons_of_neg (by simp [isFile, hm])])
        clear hm HL
        replace hb := hb.trans (hb2.mono hb.size)
        replace hown := own_below hown hb2
        clear hb2
        go_wp2_with fail
        go_roundw
        case rel => exact ⟨k + 1, done, by omega, by go_num, by omega, hown, hb, HN⟩
        case measure => simp [intOf]; omega
      | true =>
        have HM := Lib.hid hm
        clear hm
        rintro e w2 ⟨rfl, hb2⟩
        replace hb := hb.trans (hb2.mono hb.size)
        replace hown := own_below hown hb2
        clear hb2
        go_wp2_with fail
        refine (C1.out z _).mono ?_
        cases hd : dotB z with
        | false =>
          rintro e w3 ⟨rfl, rfl⟩
          have HN := Lib.hid (show filesL p l = Lib.compact (sortL ((done ++ [z]) ++ (l.drop (k + 1)).filter (isFile p))) by rw [HL.out, List.filter_cons_of_pos (by simp [isFile, HM.out, hd])]; simp)
          clear hd HL HM
          go_wp2_with (at_builtin; refine wpList_push rfl _ _ _ rfl Tryd.underlying22 hi hz0 hz1 hz2 rfl (by decide) hown rfl rfl rfl (by simp [Value.oneCell']) (by omega) (by decide) hb.size ?_; intro A' c' w4 hown4 hb4 ho4)
          go_roundw
          case rel => exact ⟨k + 1, done ++ [z], by omega, by go_num, by simp; omega, by simpa [strc] using hown4, hb.trans hb4, HN⟩
          case measure => simp [intOf]; omega
        | true =>
          rintro e w3 ⟨rfl, rfl⟩
          have HD := Lib.hid hd
          clear hd
          go_wp2_with fail
          refine (C0.out _).mono ?_
          cases hq : dotB p with
          | false =>
            rintro e w4 ⟨rfl, rfl⟩
            have HN := Lib.hid (show filesL p l = Lib.compact (sortL (done ++ (l.drop (k + 1)).filter (isFile p))) by rw [HL.out, List.filter_cons_of_neg (by simp [isFile, HD.out, hq])])
            clear hq HL
            go_wp2_with fail
            go_roundw
            case rel => exact ⟨k + 1, done, by omega, by go_num, by omega, hown, hb, HN⟩
            case measure => simp [intOf]; omega
          | true =>
            rintro e w4 ⟨rfl, rfl⟩
            have HN := Lib.hid (show filesL p l = Lib.compact (sortL ((done ++ [z]) ++ (l.drop (k + 1)).filter (isFile p))) by rw [HL.out, List.filter_cons_of_pos (by simp [isFile, HM.out, hq])]; simp)
            clear hq HL HM
            go_wp2_with (at_builtin; refine wpList_push rfl _ _ _ rfl Tryd.underlying22 hi hz0 hz1 hz2 rfl (by decide) hown rfl rfl rfl (by simp [Value.oneCell']) (by omega) (by decide) hb.size ?_; intro A' c' w5 hown4 hb4 ho4)
            go_roundw
            case rel => exact ⟨k + 1, done ++ [z], by omega, by go_num, by simp; omega, by simpa [strc] using hown4, hb.trans hb4, HN⟩
            case measure => simp [intOf]; omega
    · obtain rfl : k = l.length := by omega
      have HN := Lib.hid (show Lib.compact (sortL done) = filesL p l by rw [H.out, List.drop_length]; simp)
      clear H hlt
      obtain ⟨A5, c5, rfl, _, _, _, _⟩ := RdL.of_own strc_len hown rfl
      go_wp2_with fail
      refine (sort_any _ done _ _ hown (by omega)).mono ?_
      rintro e w2 ⟨rfl, hown2, hb2⟩
      rw [← sortL_len done] at hown2
      replace hb := hb.trans hb2
      clear hb2 hown
      go_wp2_with fail
      rw [← sortL_len done]
      refine (compact_any _ (sortL done) _ _ hown2 (by rw [sortL_len]; omega)).mono ?_
      rw [HN.out]
      rintro e w3 ⟨A6, c6, rfl, hown3, hb3⟩
      replace hb := hb.trans hb3
      clear hb3 hown2
      go_wp2_with fail
      go_ret
      exact ⟨A6, c6, rfl, hown3, hb⟩
end Go.Proofs.YtckcpokfjofcaaaDoor
