/- The walks of Sort and Compact in one's own words, and of Files: what it answers is what matches, sorted, each once, in a row of its own. -/
import Derived.Test.YtlhpflilpdceiaaGreatDoorPatF
import Derived.Sort.OwnSorted
import Derived.Lib.OwnBridge
set_option linter.unusedVariables false
set_option linter.unusedSimpArgs false
namespace Go.Proofs.YtlhpflilpdceiaaGreatDoor
open Go.RowKit Go.Sort

def sortL (l : List (List UInt8)) : List (List UInt8) := l.mergeSort fun x y => decide (x ≤ y)
def dotB (s : List UInt8) : Bool := Lib.hasPrefix s [46]
def isFile (p n : List UInt8) : Bool := matchL p n && (!dotB n || dotB p)
def filesL (p : List UInt8) (l : List (List UInt8)) : List (List UInt8) := Lib.compact (sortL (l.filter (isFile p)))

theorem strc_enc (l : List (List UInt8)) : l.flatMap strc = l.map encStr := by
  induction l with
  | nil => rfl
  | cons x l ih => rw [List.flatMap_cons, ih]; rfl
theorem sortL_len (l : List (List UInt8)) : (sortL l).length = l.length := List.length_mergeSort l

theorem sort_any (base : Nat) (l : List (List UInt8)) (v : Value) (w : World) (hown : w.ownsRow base 9 1 v l.length (l.flatMap strc)) (hl : l.length ≤ 1000000) :
    Calls Tryz.prog 74 #[v] w fun e w' => e = .returned (.tuple #[]) ∧ w'.ownsRow base 9 1 v l.length ((sortL l).flatMap strc) ∧ Below base w w' := by
  rw [strc_enc] at hown
  rcases hown.2 with ⟨rfl, h0⟩ | ⟨g, cap, cur, rfl, hb, hg, hc, hm, hcs, ht⟩
  · have : l = [] := List.eq_nil_of_length_eq_zero h0
    subst this
    refine (Tryz.slices_Sort_string_none none 0 w).mono ?_
    rintro e w' ⟨rfl, rfl⟩
    rw [List.eq_nil_of_length_eq_zero (sortL_len [])]
    exact ⟨rfl, World.ownsRow_nil _ _ _ _, Below.refl _ _⟩
  · have hH : Holds encStr w g 0 l.toArray := holds_of_block hg (by rw [Nat.mul_one] at ht; exact ht)
    refine (Tryz.slices_Sort_string g 0 cap l w hH (Array.getElem?_eq_some_iff.1 hg).1 (by omega)).mono ?_
    rintro e w' ⟨rfl, n, os, rfl⟩
    refine ⟨rfl, ?_, ?_⟩
    · rw [strc_enc]
      exact ownsRow_sorted (sortL_len l) hb hg hc hm hcs
    · exact (Below.refl _ _).grown (grownBy_sorted _) (by have := (Array.getElem?_eq_some_iff.1 hg).1; omega) (fun j hj => by cases hj; exact hb)

theorem compact_any (base : Nat) (l : List (List UInt8)) (v : Value) (w : World) (hown : w.ownsRow base 9 1 v l.length (l.flatMap strc)) (hl : l.length ≤ 1000000) :
    Calls Tryz.prog 75 #[v] w fun e w' => ∃ A c, e = .returned (.slice A (Lib.compact l).length c) ∧ w'.ownsRow base 9 1 (.slice A (Lib.compact l).length c) (Lib.compact l).length ((Lib.compact l).flatMap strc) ∧ Below base w w' := by
  rw [strc_enc] at hown
  have h1 := hown
  rcases hown.2 with ⟨rfl, h0⟩ | ⟨g, cap, cur, rfl, hb, hg, hc, hm, hcs, ht⟩
  · have : l = [] := List.eq_nil_of_length_eq_zero h0
    subst this
    refine (Tryz.slices_Compact_string_empty none 0 w).mono ?_
    rintro e w' ⟨rfl, rfl⟩
    exact ⟨none, 0, rfl, World.ownsRow_nil _ _ _ _, Below.refl _ _⟩
  · have hH : Holds encStr w g 0 l.toArray := holds_of_block hg (by rw [Nat.mul_one] at ht; exact ht)
    have hle := Lib.compact_length_le l
    refine (Tryz.slices_Compact_string g 0 cap l w hH (by omega) hc).mono ?_
    rintro e w' ⟨rfl, q, rfl⟩
    refine ⟨_, _, rfl, ?_, Lib.below_putRow (Below.refl _ _) hb⟩
    rw [strc_enc]
    have hc2 := Lib.ownsRow_putRow (q := q) (k := (Lib.compact l).length) (ys := Lib.compact l ++ List.replicate (l.length - (Lib.compact l).length) []) h1 (by simp; omega) (by omega)
    rwa [List.take_left] at hc2

set_option maxHeartbeats 2000000 in
theorem files_any (p : List UInt8) (A : Option Addr) (c : Nat) (l : List (List UInt8)) (w : World) (hrd : RdL w 1 strc A l) (hp : p.length ≤ 1000000) (hl : l.length ≤ 1000000) (hs : ∀ x ∈ l, x.length ≤ 1000000) :
    Calls Tryz.prog 47 #[.string ⟨p.toArray⟩, .slice A l.length c] w (StrsRet (filesL p l) w) := by
  obtain ⟨i0, hi, hz0, hz1, hz2⟩ := info_parts infoStr
  have HS := Lib.hid hs
  clear hs
  have HP := Lib.hid (show filesL p l = Lib.compact (sortL ([] ++ (l.drop 0).filter (isFile p))) from rfl)
  have C0 := Lib.hid (show ∀ W, Calls Tryz.prog 73 #[.string ⟨p.toArray⟩, .string { data := #[46] }] W fun e w' => e = .returned (.bool (dotB p)) ∧ w' = W from fun W => Tryz.strings_HasPrefix ⟨p.toArray⟩ ⟨#[46]⟩ W)
  have C1 := Lib.hid (show ∀ (n : List UInt8) W, Calls Tryz.prog 73 #[.string ⟨n.toArray⟩, .string { data := #[46] }] W fun e w' => e = .returned (.bool (dotB n)) ∧ w' = W from fun n W => Tryz.strings_HasPrefix ⟨n.toArray⟩ ⟨#[46]⟩ W)
  go_enter Tryz.func47, Tryz.ntmps47
  go_wp2_with fail
  go_loopw [5, 10] (fun v i wr => ∃ k : Nat, ∃ done : List (List UInt8), k ≤ l.length ∧ i = .int .i64 k ∧ done.length ≤ k ∧ wr.ownsRow w.heap.size 9 1 v done.length (done.flatMap strc) ∧ Below w.heap.size w wr ∧ Hid (filesL p l = Lib.compact (sortL (done ++ (l.drop k).filter (isFile p)))))
    (fun _ i _ => l.length - (intOf i).toNat)
  case atStart => exact ⟨0, [], Nat.zero_le _, rfl, Nat.zero_le _, World.ownsRow_nil _ _ _ _, Below.refl _ _, HP.out⟩
  case round =>
    clear HP
    obtain ⟨k, done, hk, rfl, hdk, hown, hb, H⟩ := hrel
    by_cases hlt : k < l.length
    · obtain ⟨b, o, rfl, _, hcell⟩ := (hrd.below hb) k hlt
      have c0 := hcell 0 _ rfl
      have hL := H.out
      rw [List.drop_eq_getElem_cons hlt] at hL
      have hz : l[k].length ≤ 1000000 := HS.out _ (List.getElem_mem _)
      obtain ⟨z, hzz⟩ : ∃ z, z = l[k] := ⟨_, rfl⟩
      rw [← hzz] at c0 hL hz
      have HL := Lib.hid hL
      clear hL hcell H hzz
      simp only [Nat.mul_one, Nat.add_zero] at c0
      go_wp2_with fail
      refine (match_any ⟨p.toArray⟩ ⟨z.toArray⟩ _ (by simp [ByteArray.size]; omega) (by simp [ByteArray.size]; omega)).mono ?_
      show ∀ e w', Ret wr (.bool (matchL p z)) e w' → _
      cases hm : matchL p z with
      | false =>
        rintro e w2 ⟨rfl, hb2⟩
        have HN := Lib.hid (show filesL p l = Lib.compact (sortL (done ++ (l.drop (k + 1)).filter (isFile p))) by rw [HL.out, List.filter_cons_of_neg (by simp [isFile, hm])])
        clear hm HL
        replace hb := hb.trans (hb2.mono hb.size)
        replace hown := own_below hown hb2
        clear hb2
        go_wp2_with fail
        go_roundw
        case rel => exact ⟨k + 1, done, by omega, by go_num, by omega, hown, hb, HN⟩
        case measure => simp [intOf]; omega
      | true =>
        have HM := Lib.hid hm
        clear hm
        rintro e w2 ⟨rfl, hb2⟩
        replace hb := hb.trans (hb2.mono hb.size)
        replace hown := own_below hown hb2
        clear hb2
        go_wp2_with fail
        refine (C1.out z _).mono ?_
        cases hd : dotB z with
        | false =>
          rintro e w3 ⟨rfl, rfl⟩
          have HN := Lib.hid (show filesL p l = Lib.compact (sortL ((done ++ [z]) ++ (l.drop (k + 1)).filter (isFile p))) by rw [HL.out, List.filter_cons_of_pos (by simp [isFile, HM.out, hd])]; simp)
          clear hd HL HM
          go_wp2_with (at_builtin; refine wpList_push rfl _ _ _ rfl Tryz.underlying23 hi hz0 hz1 hz2 rfl (by decide) hown rfl rfl rfl (by simp [Value.oneCell']) (by omega) (by decide) hb.size ?_; intro A' c' w4 hown4 hb4 ho4)
          go_roundw
          case rel => exact ⟨k + 1, done ++ [z], by omega, by go_num, by simp; omega, by simpa [strc] using hown4, hb.trans hb4, HN⟩
          case measure => simp [intOf]; omega
        | true =>
          rintro e w3 ⟨rfl, rfl⟩
          have HD := Lib.hid hd
          clear hd
          go_wp2_with fail
          refine (C0.out _).mono ?_
          cases hq : dotB p with
          | false =>
            rintro e w4 ⟨rfl, rfl⟩
            have HN := Lib.hid (show filesL p l = Lib.compact (sortL (done ++ (l.drop (k + 1)).filter (isFile p))) by rw [HL.out, List.filter_cons_of_neg (by simp [isFile, HD.out, hq])])
            clear hq HL
            go_wp2_with fail
            go_roundw
            case rel => exact ⟨k + 1, done, by omega, by go_num, by omega, hown, hb, HN⟩
            case measure => simp [intOf]; omega
          | true =>
            rintro e w4 ⟨rfl, rfl⟩
            have HN := Lib.hid (show filesL p l = Lib.compact (sortL ((done ++ [z]) ++ (l.drop (k + 1)).filter (isFile p))) by rw [HL.out, List.filter_cons_of_pos (by simp [isFile, HM.out, hq])]; simp)
            clear hq HL HM
            go_wp2_with (at_builtin; refine wpList_push rfl _ _ _ rfl Tryz.underlying23 hi hz0 hz1 hz2 rfl (by decide) hown rfl rfl rfl (by simp [Value.oneCell']) (by omega) (by decide) hb.size ?_; intro A' c' w5 hown4 hb4 ho4)
            go_roundw
            case rel => exact ⟨k + 1, done ++ [z], by omega, by go_num, by simp; omega, by simpa [strc] using hown4, hb.trans hb4, HN⟩
            case measure => simp [intOf]; omega
    · obtain rfl : k = l.length := by omega
      have HN := Lib.hid (show Lib.compact (sortL done) = filesL p l by rw [H.out, List.drop_length]; simp)
      clear H hlt
      obtain ⟨A5, c5, rfl, _, _, _, _⟩ := RdL.of_own strc_len hown rfl
      go_wp2_with fail
      refine (sort_any _ done _ _ hown (by omega)).mono ?_
      rintro e w2 ⟨rfl, hown2, hb2⟩
      rw [← sortL_len done] at hown2
      replace hb := hb.trans hb2
      clear hb2 hown
      go_wp2_with fail
      rw [← sortL_len done]
      refine (compact_any _ (sortL done) _ _ hown2 (by rw [sortL_len]; omega)).mono ?_
      rw [HN.out]
      rintro e w3 ⟨A6, c6, rfl, hown3, hb3⟩
      replace hb := hb.trans hb3
      clear hb3 hown2
      go_wp2_with fail
      go_ret
      exact ⟨A6, c6, rfl, hown3, hb⟩
end Go.Proofs.YtlhpflilpdceiaaGreatDoor

/- The plain laws of PatternFiles: the files are names that match, each once, rising. No program in sight. -/
set_option linter.unusedVariables false
set_option linter.unusedSimpArgs false
namespace Go.Proofs.YtlhpflilpdceiaaGreatDoor

theorem le_tr {a b c : List UInt8} (h : a ≤ b) (h' : b ≤ c) : a ≤ c := List.le_trans h h'
theorem le_tot (a b : List UInt8) : a ≤ b ∨ b ≤ a := List.le_total a b
theorem lt_of_le_ne {a b : List UInt8} (h : a ≤ b) (hn : b ≠ a) : a < b := by
  rcases Classical.em (a < b) with h1 | h1
  · exact h1
  · exact absurd (List.le_antisymm (List.not_lt.1 h1) h) hn
theorem lt_of_le_lt {a b c : List UInt8} (h : a ≤ b) (h' : b < c) : a < c := List.lt_of_le_of_lt h h'

theorem compact_spec (d : Array (List UInt8)) (hs : ∀ i j, i < j → j < d.size → d[i]! ≤ d[j]!) : ∀ m, m ≤ d.size →
    (Lib.compactUpTo d m).Pairwise (· < ·) ∧ (∀ x, x ∈ Lib.compactUpTo d m ↔ ∃ j, j < m ∧ d[j]! = x)
  | 0, _ => by simp [Lib.compactUpTo]
  | m + 1, hm => by
    obtain ⟨h1, h2⟩ := compact_spec d hs m (by omega)
    rw [Lib.compactUpTo_succ]
    by_cases hk : Lib.keeps d m = true
    · rw [if_pos hk]
      refine ⟨List.pairwise_append.2 ⟨h1, List.pairwise_singleton _ _, fun a ha b hb => ?_⟩, fun x => ?_⟩
      · rw [List.mem_singleton] at hb
        subst hb
        obtain ⟨j, hj, rfl⟩ := (h2 a).1 ha
        have hne : d[m]! ≠ d[m - 1]! := by
          have : m = 0 ∨ d[m]! ≠ d[m - 1]! := by simpa [Lib.keeps] using hk
          rcases this with h0 | h0
          · omega
          · exact h0
        have hlt : d[m - 1]! < d[m]! := lt_of_le_ne (hs (m - 1) m (by omega) (by omega)) hne
        rcases Nat.lt_or_ge j (m - 1) with hjm | hjm
        · exact lt_of_le_lt (hs j (m - 1) hjm (by omega)) hlt
        · have : j = m - 1 := by omega
          subst this; exact hlt
      · rw [List.mem_append, h2, List.mem_singleton]
        constructor
        · rintro (⟨j, hj, rfl⟩ | rfl)
          · exact ⟨j, by omega, rfl⟩
          · exact ⟨m, by omega, rfl⟩
        · rintro ⟨j, hj, rfl⟩
          rcases Nat.lt_or_ge j m with h | h
          · exact .inl ⟨j, h, rfl⟩
          · have : j = m := by omega
            subst this; exact .inr rfl
    · rw [if_neg hk, List.append_nil]
      refine ⟨h1, fun x => ?_⟩
      have hno : m ≠ 0 ∧ d[m]! = d[m - 1]! := by simpa [Lib.keeps] using hk
      rw [h2]
      constructor
      · rintro ⟨j, hj, rfl⟩; exact ⟨j, by omega, rfl⟩
      · rintro ⟨j, hj, rfl⟩
        rcases Nat.lt_or_ge j m with h | h
        · exact ⟨j, h, rfl⟩
        · have : j = m := by omega
          subst this; exact ⟨j - 1, by omega, hno.2.symm⟩

theorem sortL_mem (l : List (List UInt8)) (x : List UInt8) : x ∈ sortL l ↔ x ∈ l := List.mem_mergeSort
theorem sortL_sorted (l : List (List UInt8)) : (sortL l).Pairwise fun x y => x ≤ y := by
  have h := List.pairwise_mergeSort (le := fun x y : List UInt8 => decide (x ≤ y)) (fun a b c h1 h2 => by simp only [decide_eq_true_eq] at *; exact le_tr h1 h2) (fun a b => by
    simp only [Bool.or_eq_true, decide_eq_true_eq]; exact le_tot a b) l
  exact h.imp fun h => by simpa using h

theorem compact_sort (l : List (List UInt8)) : (Lib.compact (sortL l)).Pairwise (· < ·) ∧ ∀ x, x ∈ Lib.compact (sortL l) ↔ x ∈ l := by
  have hs : ∀ i j, i < j → j < (sortL l).toArray.size → (sortL l).toArray[i]! ≤ (sortL l).toArray[j]! := by
    intro i j hij hj
    have hj' : j < (sortL l).length := by simpa using hj
    have := List.pairwise_iff_getElem.1 (sortL_sorted l) i j (by omega) hj' hij
    simpa [getElem!_pos, hj', show i < (sortL l).length by omega] using this
  obtain ⟨h1, h2⟩ := compact_spec (sortL l).toArray hs (sortL l).length (by simp)
  refine ⟨h1, fun x => ?_⟩
  rw [← sortL_mem l x]
  show x ∈ Lib.compactUpTo _ _ ↔ _
  rw [h2, List.mem_iff_getElem]
  constructor
  · rintro ⟨j, hj, rfl⟩; exact ⟨j, hj, by simp [getElem!_pos, hj]⟩
  · rintro ⟨j, hj, rfl⟩; exact ⟨j, hj, by simp [getElem!_pos, hj]⟩

theorem files_spec (p : List UInt8) (l : List (List UInt8)) : (filesL p l).Pairwise (· < ·) ∧ ∀ x, x ∈ filesL p l ↔ x ∈ l ∧ isFile p x = true := by
  obtain ⟨h1, h2⟩ := compact_sort (l.filter (isFile p))
  exact ⟨h1, fun x => by rw [filesL, h2, List.mem_filter]⟩
theorem files_len (p : List UInt8) (l : List (List UInt8)) : (filesL p l).length ≤ l.length := by
  have h := Lib.compact_length_le (sortL (l.filter (isFile p)))
  rw [sortL_len] at h
  exact Nat.le_trans h (List.length_filter_le _ _)
theorem dotB_nil : dotB [] = false := rfl
theorem dotB_cons (c : UInt8) (t : List UInt8) : dotB (c :: t) = (c == 46) := by
  show ((46 == c) && true) = (c == 46)
  rw [Bool.and_true]
  rw [Bool.eq_iff_iff, beq_iff_eq, beq_iff_eq]
  exact ⟨Eq.symm, Eq.symm⟩
end Go.Proofs.YtlhpflilpdceiaaGreatDoor
