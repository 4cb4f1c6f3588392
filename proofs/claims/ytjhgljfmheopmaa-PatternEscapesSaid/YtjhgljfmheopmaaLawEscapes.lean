/- PatternEscapes: for every two texts the law answers true: an escaped text is plainly that text, not live, one part, and matches itself alone. No condition. -/
import Derived.Test.YtjhgljfmheopmaaPatF
import Derived.Test.YtjhgljfmheopmaaPatL
set_option linter.unusedVariables false
set_option linter.unusedSimpArgs false
namespace Go.Proofs.Ytjhgljfmheopmaa
open Go.RowKit

set_option maxHeartbeats 2000000 in
theorem escapes_list (S T : List UInt8) (w : World) :
    Calls Try.prog 4 #[.string ⟨S.toArray⟩, .string ⟨T.toArray⟩] w fun e w' => e = .returned (.bool true) ∧ Below w.heap.size w w' := by
  by_cases h : 60 < S.length ∨ 60 < T.length
  · go_enter Try.func4, Try.ntmps4
    go_wp2_with fail
    refine (first_any _).mono ?_
    rintro e w1 ⟨rfl, hb⟩
    rcases h with h | h
    · go_wp2_with fail
      go_ret
      exact ⟨rfl, hb⟩
    · by_cases h2 : 60 < S.length
      · go_wp2_with fail
        go_ret
        exact ⟨rfl, hb⟩
      · go_wp2_with fail
        go_ret
        exact ⟨rfl, hb⟩
  · have h1 : S.length ≤ 60 := by omega
    have h2 : T.length ≤ 60 := by omega
    clear h
    have hE := escapeL_len S
    obtain ⟨E, hEq⟩ : ∃ E, E = escapeL S := ⟨_, rfl⟩
    have P1 := Lib.hid (show plainL E = S by rw [hEq]; exact plain_escape _)
    have P2 := Lib.hid (show openOf E = false by rw [hEq]; exact open_escape _)
    have P3 := Lib.hid (show liveL E = false by rw [hEq]; exact live_escape _)
    have P4 := Lib.hid (show ∀ T, matchL E T = decide (S = T) by rw [hEq]; exact match_escape _)
    have P5 := Lib.hid (show splitL E = if 0 < E.length then [E] else [] by rw [hEq]; exact split_escape _)
    have P6 := Lib.hid (show S ≠ [] → 0 < E.length by rw [hEq]; exact escapeL_pos _)
    have P7 := Lib.hid (show S = [] → E = [] by intro h; rw [hEq, h]; rfl)
    have P0 := Lib.hid hEq
    rw [← hEq] at hE
    clear hEq
    have C1 := Lib.hid (fun W => plain_any ⟨E.toArray⟩ W (by simp [ByteArray.size]; omega))
    have C2 := Lib.hid (fun W => closed_any ⟨E.toArray⟩ W (by simp [ByteArray.size]; omega))
    have C3 := Lib.hid (fun W => live_any ⟨E.toArray⟩ W (by simp [ByteArray.size]; omega))
    have C4 := Lib.hid (fun W => match_any ⟨E.toArray⟩ ⟨S.toArray⟩ W (by simp [ByteArray.size]; omega) (by simp [ByteArray.size]; omega))
    have C5 := Lib.hid (fun W => match_any ⟨E.toArray⟩ ⟨T.toArray⟩ W (by simp [ByteArray.size]; omega) (by simp [ByteArray.size]; omega))
    go_enter Try.func4, Try.ntmps4
    go_wp2_with fail
    refine (first_any _).mono ?_
    rintro e w1 ⟨rfl, hb1⟩
    go_wp2_with fail
    refine (escape_any ⟨S.toArray⟩ _ (by simp [ByteArray.size]; omega)).mono ?_
    show ∀ e w', Ret w1 (.string ⟨(escapeL S).toArray⟩) e w' → _
    rw [← P0.out]
    rintro e w2 ⟨rfl, hb2⟩
    replace hb2 := hb1.trans (hb2.mono hb1.size); clear hb1
    go_wp2_with fail
    refine (split_any ⟨E.toArray⟩ _ (by simp [ByteArray.size]; omega)).mono ?_
    show ∀ e w', StrsRet (splitL E) w2 e w' → _
    rw [P5.out]
    by_cases hem : S = []
    · have hE0 := P7.out hem
      subst hE0 hem
      rintro e w3 ⟨A, c, rfl, hown, hb3⟩
      replace hb3 := hb2.trans (hb3.mono hb2.size); clear hb2
      go_wp2_with fail
      refine (C1.out _).mono ?_
      show ∀ e w', Ret w3 (.string ⟨(plainL ([] : List UInt8)).toArray⟩) e w' → _
      rw [P1.out]
      rintro e w1 ⟨rfl, hb1⟩
      replace hb1 := hb3.trans (hb1.mono hb3.size); clear hb3
      go_wp2_with fail
      refine (C2.out _).mono ?_
      show ∀ e w', Ret w1 (.bool (!openOf ([] : List UInt8))) e w' → _
      rw [P2.out]
      rintro e w2 ⟨rfl, hb2⟩
      replace hb2 := hb1.trans (hb2.mono hb1.size); clear hb1
      go_wp2_with fail
      refine (C3.out _).mono ?_
      show ∀ e w', Ret w2 (.bool (liveL ([] : List UInt8))) e w' → _
      rw [P3.out]
      rintro e w3 ⟨rfl, hb3⟩
      replace hb3 := hb2.trans (hb3.mono hb2.size); clear hb2
      go_wp2_with fail
      refine (C4.out _).mono ?_
      show ∀ e w', Ret w3 (.bool (matchL ([] : List UInt8) ([] : List UInt8))) e w' → _
      rw [P4.out, decide_eq_true rfl]
      rintro e w1 ⟨rfl, hb1⟩
      replace hb1 := hb3.trans (hb1.mono hb3.size); clear hb3
      go_wp2_with fail
      refine (C5.out _).mono ?_
      show ∀ e w', Ret w1 (.bool (matchL ([] : List UInt8) T)) e w' → _
      rw [P4.out]
      by_cases hST : ([] : List UInt8) = T
      · have hq : (([] : List UInt8) == T) = true := by simpa using hST
        rw [decide_eq_true hST]
        clear hST
        rintro e w2 ⟨rfl, hb2⟩
        replace hb2 := hb1.trans (hb2.mono hb1.size); clear hb1
        go_wp2_with fail
        go_ret
        exact ⟨rfl, hb2⟩
      · have hq : (([] : List UInt8) == T) = false := by simpa using hST
        rw [decide_eq_false hST]
        clear hST
        rintro e w2 ⟨rfl, hb2⟩
        replace hb2 := hb1.trans (hb2.mono hb1.size); clear hb1
        go_wp2_with fail
        go_ret
        exact ⟨rfl, hb2⟩
    · have hpos := P6.out hem
      have hemb : S.isEmpty = false := by cases S with | nil => exact absurd rfl hem | cons _ _ => rfl
      rw [if_pos hpos]
      rintro e w3 ⟨A, c, rfl, hown, hb3⟩
      replace hb3 := hb2.trans (hb3.mono hb2.size); clear hb2
      obtain ⟨A1, c1, he1, _, _, hrd, _⟩ := RdL.of_own (l := [E]) strc_len hown rfl
      injection he1 with he1 _ he2
      subst he1 he2
      obtain ⟨b, o, rfl, _, hc⟩ := hrd 0 (by simp)
      have c0 := hc 0 _ rfl
      simp only [Nat.zero_mul, Nat.add_zero, List.getElem_cons_zero] at c0
      clear hc hrd hown
      go_wp2_with fail
      refine (C1.out _).mono ?_
      show ∀ e w', Ret w3 (.string ⟨(plainL E).toArray⟩) e w' → _
      rw [P1.out]
      rintro e w1 ⟨rfl, hb1⟩
      replace hb1 := hb3.trans (hb1.mono hb3.size); clear hb3
      go_wp2_with fail
      refine (C2.out _).mono ?_
      show ∀ e w', Ret w1 (.bool (!openOf E)) e w' → _
      rw [P2.out]
      rintro e w2 ⟨rfl, hb2⟩
      replace hb2 := hb1.trans (hb2.mono hb1.size); clear hb1
      go_wp2_with fail
      refine (C3.out _).mono ?_
      show ∀ e w', Ret w2 (.bool (liveL E)) e w' → _
      rw [P3.out]
      rintro e w3 ⟨rfl, hb3⟩
      replace hb3 := hb2.trans (hb3.mono hb2.size); clear hb2
      go_wp2_with fail
      refine (C4.out _).mono ?_
      show ∀ e w', Ret w3 (.bool (matchL E S)) e w' → _
      rw [P4.out, decide_eq_true rfl]
      rintro e w1 ⟨rfl, hb1⟩
      replace hb1 := hb3.trans (hb1.mono hb3.size); clear hb3
      go_wp2_with fail
      refine (C5.out _).mono ?_
      show ∀ e w', Ret w1 (.bool (matchL E T)) e w' → _
      rw [P4.out]
      by_cases hST : S = T
      · have hq : (S == T) = true := by simpa using hST
        rw [decide_eq_true hST]
        clear hST
        rintro e w2 ⟨rfl, hb2⟩
        replace hb2 := hb1.trans (hb2.mono hb1.size); clear hb1
        go_wp2_with fail
        go_ret
        exact ⟨rfl, hb2⟩
      · have hq : (S == T) = false := by simpa using hST
        rw [decide_eq_false hST]
        clear hST
        rintro e w2 ⟨rfl, hb2⟩
        replace hb2 := hb1.trans (hb2.mono hb1.size); clear hb1
        go_wp2_with fail
        go_ret
        exact ⟨rfl, hb2⟩

theorem escapes_walk (s t : ByteArray) (w : World) :
    Calls Try.prog 4 #[.string s, .string t] w fun e w' => e = .returned (.bool true) ∧ Below w.heap.size w w' :=
  escapes_list s.data.toList t.data.toList w
end Go.Proofs.Ytjhgljfmheopmaa
