/- The walk over patoisref5.alone: whether a node may be but for its children. A bound on the string's length. -/
import Derived.Test.YtjhgljfmheopmaaDoorRef5X
import Derived.Test.YtjhgljfmheopmaaDoorRef5Z
import Derived.Outline
set_option linter.unusedVariables false
set_option linter.unusedSimpArgs false
namespace Go.Proofs.YtjhgljfmheopmaaDoor
open Go.RowKit

def aloneB (x : Nd) : Bool := fieldsB x && childrenB x.kind x.k

set_option maxRecDepth 100000 in
set_option maxHeartbeats 4000000 in
theorem alone_any (x : Nd) (w : World) (hs : x.s.length ≤ 4000000) (hk : (1 ≤ x.kind ∧ x.kind ≤ 12) ∨ (20 ≤ x.kind ∧ x.kind ≤ 37)) : Calls Tryd.prog 66 #[.agg #[.int .i64 x.kind, .int .i64 x.n, .int .i64 x.k, .int .i64 x.size, .string ⟨x.s.toArray⟩]] w (Ret w (.bool (aloneB x))) := by
  obtain ⟨kind, n, k, size, s⟩ := x
  simp only at hs hk ⊢
  have C1 := Lib.hid (fun W => closed2_any s W hs)
  have C2 := Lib.hid (fun W => name5_any s W hs)
  have C3 := Lib.hid (fun W => count5_any kind k W hk)
  have HF := Lib.hid (show fieldsB ⟨kind, n, k, size, s⟩ = (if kind == 1 then (n == 0 || n == 1 && !openOf s) && decide (s.length ≤ 2000)
    else if kind == 11 then decide (1 ≤ n) && decide (n ≤ 99) && s.isEmpty
    else if kind == 33 then decide (1 ≤ n) && decide (n ≤ 3) && s.isEmpty
    else if n != 0 then false
    else if kind == 2 then nameB s || s == [42]
    else if namedB kind then nameB s
    else s.isEmpty) from rfl)
  have HA := Lib.hid (show aloneB ⟨kind, n, k, size, s⟩ = (fieldsB ⟨kind, n, k, size, s⟩ && childrenB kind k) from rfl)
  generalize aloneB ⟨kind, n, k, size, s⟩ = R at *
  generalize fieldsB ⟨kind, n, k, size, s⟩ = F at *
  generalize openOf s = ob at *
  generalize childrenB kind k = cb at *
  clear hk
  cases hk0 : (kind == 1)
  case true =>
    obtain rfl : kind = 1 := by simpa using hk0
    clear hk0
    by_cases hl : s.length ≤ 2000
    case pos =>
      cases hn0 : (n == 0)
      case true =>
        go_enter Tryd.func66, Tryd.ntmps66
        go_wp2_with fail
        refine (C3.out _).mono ?_
        rintro e w2 ⟨rfl, rfl⟩
        go_wp2_with fail
        go_ret
        exact ⟨name_ret (by rw [HA.out, HF.out]; (try simp only [beq_eq_false_iff_ne, beq_iff_eq, ne_eq] at hn0); (try simp only [beq_eq_false_iff_ne, beq_iff_eq, ne_eq] at hn1); first | (simp [*]; done) | (simp [*]; omega) | (simp [namedB, *]; done) | (simp [namedB, *]; omega)), (Below.refl _ _).alloc (Nat.le_refl _) _⟩
      case false =>
        cases hn1 : (n == 1)
        case false =>
          go_enter Tryd.func66, Tryd.ntmps66
          go_wp2_with fail
          go_ret
          exact ⟨name_ret (by rw [HA.out, HF.out]; (try simp only [beq_eq_false_iff_ne, beq_iff_eq, ne_eq] at hn0); (try simp only [beq_eq_false_iff_ne, beq_iff_eq, ne_eq] at hn1); first | (simp [*]; done) | (simp [*]; omega) | (simp [namedB, *]; done) | (simp [namedB, *]; omega)), (Below.refl _ _).alloc (Nat.le_refl _) _⟩
        case true =>
          go_enter Tryd.func66, Tryd.ntmps66
          go_wp2_with fail
          refine (C1.out _).mono ?_
          rintro e w1 ⟨rfl, rfl⟩
          cases ob
          · go_wp2_with fail
            refine (C3.out _).mono ?_
            rintro e w2 ⟨rfl, rfl⟩
            go_wp2_with fail
            go_ret
            exact ⟨name_ret (by rw [HA.out, HF.out]; (try simp only [beq_eq_false_iff_ne, beq_iff_eq, ne_eq] at hn0); (try simp only [beq_eq_false_iff_ne, beq_iff_eq, ne_eq] at hn1); first | (simp [*]; done) | (simp [*]; omega) | (simp [namedB, *]; done) | (simp [namedB, *]; omega)), (Below.refl _ _).alloc (Nat.le_refl _) _⟩
          · go_wp2_with fail
            go_ret
            exact ⟨name_ret (by rw [HA.out, HF.out]; (try simp only [beq_eq_false_iff_ne, beq_iff_eq, ne_eq] at hn0); (try simp only [beq_eq_false_iff_ne, beq_iff_eq, ne_eq] at hn1); first | (simp [*]; done) | (simp [*]; omega) | (simp [namedB, *]; done) | (simp [namedB, *]; omega)), (Below.refl _ _).alloc (Nat.le_refl _) _⟩
    case neg =>
      cases hn0 : (n == 0)
      case true =>
        go_enter Tryd.func66, Tryd.ntmps66
        go_wp2_with fail
        go_ret
        exact ⟨name_ret (by rw [HA.out, HF.out]; (try simp only [beq_eq_false_iff_ne, beq_iff_eq, ne_eq] at hn0); (try simp only [beq_eq_false_iff_ne, beq_iff_eq, ne_eq] at hn1); first | (simp [*]; done) | (simp [*]; omega) | (simp [namedB, *]; done) | (simp [namedB, *]; omega)), (Below.refl _ _).alloc (Nat.le_refl _) _⟩
      case false =>
        cases hn1 : (n == 1)
        case false =>
          go_enter Tryd.func66, Tryd.ntmps66
          go_wp2_with fail
          go_ret
          exact ⟨name_ret (by rw [HA.out, HF.out]; (try simp only [beq_eq_false_iff_ne, beq_iff_eq, ne_eq] at hn0); (try simp only [beq_eq_false_iff_ne, beq_iff_eq, ne_eq] at hn1); first | (simp [*]; done) | (simp [*]; omega) | (simp [namedB, *]; done) | (simp [namedB, *]; omega)), (Below.refl _ _).alloc (Nat.le_refl _) _⟩
        case true =>
          go_enter Tryd.func66, Tryd.ntmps66
          go_wp2_with fail
          refine (C1.out _).mono ?_
          rintro e w1 ⟨rfl, rfl⟩
          cases ob
          all_goals
            go_wp2_with fail
            go_ret
            exact ⟨name_ret (by rw [HA.out, HF.out]; (try simp only [beq_eq_false_iff_ne, beq_iff_eq, ne_eq] at hn0); (try simp only [beq_eq_false_iff_ne, beq_iff_eq, ne_eq] at hn1); first | (simp [*]; done) | (simp [*]; omega) | (simp [namedB, *]; done) | (simp [namedB, *]; omega)), (Below.refl _ _).alloc (Nat.le_refl _) _⟩
  case false =>
  cases hk1 : (kind == 2)
  case true =>
    obtain rfl : kind = 2 := by simpa using hk1
    clear hk1
    clear hk0
    generalize nameB s = nb at *
    by_cases h42 : s = [42]
    case pos =>
      subst h42
      cases hn0 : (n == 0)
      all_goals
        go_enter Tryd.func66, Tryd.ntmps66
        go_wp2_with fail
        refine (C2.out _).mono ?_
        rintro e w1 ⟨rfl, rfl⟩
        cases nb
        all_goals
          go_wp2_with fail
          first
            | focus
                go_ret
                exact ⟨name_ret (by rw [HA.out, HF.out]; (try simp only [beq_eq_false_iff_ne, beq_iff_eq, ne_eq] at hn0); (try simp only [beq_eq_false_iff_ne, beq_iff_eq, ne_eq] at hn1); first | (simp [*]; done) | (simp [*]; omega) | (simp [namedB, *]; done) | (simp [namedB, *]; omega)), (Below.refl _ _).alloc (Nat.le_refl _) _⟩
            | focus
                refine (C3.out _).mono ?_
                rintro e w2 ⟨rfl, rfl⟩
                go_wp2_with fail
                go_ret
                exact ⟨name_ret (by rw [HA.out, HF.out]; (try simp only [beq_eq_false_iff_ne, beq_iff_eq, ne_eq] at hn0); (try simp only [beq_eq_false_iff_ne, beq_iff_eq, ne_eq] at hn1); first | (simp [*]; done) | (simp [*]; omega) | (simp [namedB, *]; done) | (simp [namedB, *]; omega)), (Below.refl _ _).alloc (Nat.le_refl _) _⟩
    case neg =>
      have h43 : (({ data := s.toArray } : ByteArray) == { data := #[42] }) = false := by
        rw [Bool.eq_false_iff]
        intro h
        have h2 : s.toArray = #[42] := by simpa using (show (s.toArray == #[42]) = true from h)
        exact h42 (by simpa using congrArg Array.toList h2)
      cases hn0 : (n == 0)
      all_goals
        go_enter Tryd.func66, Tryd.ntmps66
        go_wp2_with fail
        refine (C2.out _).mono ?_
        rintro e w1 ⟨rfl, rfl⟩
        cases nb
        all_goals
          go_wp2_with fail
          first
            | focus
                go_ret
                exact ⟨name_ret (by rw [HA.out, HF.out]; (try simp only [beq_eq_false_iff_ne, beq_iff_eq, ne_eq] at hn0); (try simp only [beq_eq_false_iff_ne, beq_iff_eq, ne_eq] at hn1); first | (simp [*]; done) | (simp [*]; omega) | (simp [namedB, *]; done) | (simp [namedB, *]; omega)), (Below.refl _ _).alloc (Nat.le_refl _) _⟩
            | focus
                refine (C3.out _).mono ?_
                rintro e w2 ⟨rfl, rfl⟩
                go_wp2_with fail
                go_ret
                exact ⟨name_ret (by rw [HA.out, HF.out]; (try simp only [beq_eq_false_iff_ne, beq_iff_eq, ne_eq] at hn0); (try simp only [beq_eq_false_iff_ne, beq_iff_eq, ne_eq] at hn1); first | (simp [*]; done) | (simp [*]; omega) | (simp [namedB, *]; done) | (simp [namedB, *]; omega)), (Below.refl _ _).alloc (Nat.le_refl _) _⟩
  case false =>
  cases hk2 : (kind == 11)
  case true =>
    obtain rfl : kind = 11 := by simpa using hk2
    clear hk2
    clear hk0
    clear hk1
    by_cases hn0 : 1 ≤ n
    all_goals by_cases hn1 : n ≤ 99
    all_goals first
      | (exfalso; omega)
      | skip
    all_goals cases s
    all_goals
      go_enter Tryd.func66, Tryd.ntmps66
      go_wp2_with fail
      first
        | focus
            go_ret
            exact ⟨name_ret (by rw [HA.out, HF.out]; (try simp only [beq_eq_false_iff_ne, beq_iff_eq, ne_eq] at hn0); (try simp only [beq_eq_false_iff_ne, beq_iff_eq, ne_eq] at hn1); first | (simp [*]; done) | (simp [*]; omega) | (simp [namedB, *]; done) | (simp [namedB, *]; omega)), (Below.refl _ _).alloc (Nat.le_refl _) _⟩
        | focus
            refine (C3.out _).mono ?_
            rintro e w2 ⟨rfl, rfl⟩
            go_wp2_with fail
            go_ret
            exact ⟨name_ret (by rw [HA.out, HF.out]; (try simp only [beq_eq_false_iff_ne, beq_iff_eq, ne_eq] at hn0); (try simp only [beq_eq_false_iff_ne, beq_iff_eq, ne_eq] at hn1); first | (simp [*]; done) | (simp [*]; omega) | (simp [namedB, *]; done) | (simp [namedB, *]; omega)), (Below.refl _ _).alloc (Nat.le_refl _) _⟩
  case false =>
  cases hk3 : (kind == 33)
  case true =>
    obtain rfl : kind = 33 := by simpa using hk3
    clear hk3
    clear hk0
    clear hk1
    clear hk2
    by_cases hn0 : 1 ≤ n
    all_goals by_cases hn1 : n ≤ 3
    all_goals first
      | (exfalso; omega)
      | skip
    all_goals cases s
    all_goals
      go_enter Tryd.func66, Tryd.ntmps66
      go_wp2_with fail
      first
        | focus
            go_ret
            exact ⟨name_ret (by rw [HA.out, HF.out]; (try simp only [beq_eq_false_iff_ne, beq_iff_eq, ne_eq] at hn0); (try simp only [beq_eq_false_iff_ne, beq_iff_eq, ne_eq] at hn1); first | (simp [*]; done) | (simp [*]; omega) | (simp [namedB, *]; done) | (simp [namedB, *]; omega)), (Below.refl _ _).alloc (Nat.le_refl _) _⟩
        | focus
            refine (C3.out _).mono ?_
            rintro e w2 ⟨rfl, rfl⟩
            go_wp2_with fail
            go_ret
            exact ⟨name_ret (by rw [HA.out, HF.out]; (try simp only [beq_eq_false_iff_ne, beq_iff_eq, ne_eq] at hn0); (try simp only [beq_eq_false_iff_ne, beq_iff_eq, ne_eq] at hn1); first | (simp [*]; done) | (simp [*]; omega) | (simp [namedB, *]; done) | (simp [namedB, *]; omega)), (Below.refl _ _).alloc (Nat.le_refl _) _⟩
  case false =>
  cases hk4 : (kind == 22)
  case true =>
    obtain rfl : kind = 22 := by simpa using hk4
    clear hk4
    clear hk0
    clear hk1
    clear hk2
    clear hk3
    generalize nameB s = nb at *
    cases hn0 : (n == 0)
    all_goals
      go_enter Tryd.func66, Tryd.ntmps66
      go_wp2_with fail
      refine (C2.out _).mono ?_
      rintro e w1 ⟨rfl, rfl⟩
      cases nb
      all_goals
        go_wp2_with fail
        first
          | focus
              go_ret
              exact ⟨name_ret (by rw [HA.out, HF.out]; (try simp only [beq_eq_false_iff_ne, beq_iff_eq, ne_eq] at hn0); (try simp only [beq_eq_false_iff_ne, beq_iff_eq, ne_eq] at hn1); first | (simp [*]; done) | (simp [*]; omega) | (simp [namedB, *]; done) | (simp [namedB, *]; omega)), (Below.refl _ _).alloc (Nat.le_refl _) _⟩
          | focus
              refine (C3.out _).mono ?_
              rintro e w2 ⟨rfl, rfl⟩
              go_wp2_with fail
              go_ret
              exact ⟨name_ret (by rw [HA.out, HF.out]; (try simp only [beq_eq_false_iff_ne, beq_iff_eq, ne_eq] at hn0); (try simp only [beq_eq_false_iff_ne, beq_iff_eq, ne_eq] at hn1); first | (simp [*]; done) | (simp [*]; omega) | (simp [namedB, *]; done) | (simp [namedB, *]; omega)), (Below.refl _ _).alloc (Nat.le_refl _) _⟩
  case false =>
  cases hk5 : (kind == 29)
  case true =>
    obtain rfl : kind = 29 := by simpa using hk5
    clear hk5
    clear hk0
    clear hk1
    clear hk2
    clear hk3
    clear hk4
    generalize nameB s = nb at *
    cases hn0 : (n == 0)
    all_goals
      go_enter Tryd.func66, Tryd.ntmps66
      go_wp2_with fail
      refine (C2.out _).mono ?_
      rintro e w1 ⟨rfl, rfl⟩
      cases nb
      all_goals
        go_wp2_with fail
        first
          | focus
              go_ret
              exact ⟨name_ret (by rw [HA.out, HF.out]; (try simp only [beq_eq_false_iff_ne, beq_iff_eq, ne_eq] at hn0); (try simp only [beq_eq_false_iff_ne, beq_iff_eq, ne_eq] at hn1); first | (simp [*]; done) | (simp [*]; omega) | (simp [namedB, *]; done) | (simp [namedB, *]; omega)), (Below.refl _ _).alloc (Nat.le_refl _) _⟩
          | focus
              refine (C3.out _).mono ?_
              rintro e w2 ⟨rfl, rfl⟩
              go_wp2_with fail
              go_ret
              exact ⟨name_ret (by rw [HA.out, HF.out]; (try simp only [beq_eq_false_iff_ne, beq_iff_eq, ne_eq] at hn0); (try simp only [beq_eq_false_iff_ne, beq_iff_eq, ne_eq] at hn1); first | (simp [*]; done) | (simp [*]; omega) | (simp [namedB, *]; done) | (simp [namedB, *]; omega)), (Below.refl _ _).alloc (Nat.le_refl _) _⟩
  case false =>
  cases hk6 : (kind == 35)
  case true =>
    obtain rfl : kind = 35 := by simpa using hk6
    clear hk6
    clear hk0
    clear hk1
    clear hk2
    clear hk3
    clear hk4
    clear hk5
    generalize nameB s = nb at *
    cases hn0 : (n == 0)
    all_goals
      go_enter Tryd.func66, Tryd.ntmps66
      go_wp2_with fail
      refine (C2.out _).mono ?_
      rintro e w1 ⟨rfl, rfl⟩
      cases nb
      all_goals
        go_wp2_with fail
        first
          | focus
              go_ret
              exact ⟨name_ret (by rw [HA.out, HF.out]; (try simp only [beq_eq_false_iff_ne, beq_iff_eq, ne_eq] at hn0); (try simp only [beq_eq_false_iff_ne, beq_iff_eq, ne_eq] at hn1); first | (simp [*]; done) | (simp [*]; omega) | (simp [namedB, *]; done) | (simp [namedB, *]; omega)), (Below.refl _ _).alloc (Nat.le_refl _) _⟩
          | focus
              refine (C3.out _).mono ?_
              rintro e w2 ⟨rfl, rfl⟩
              go_wp2_with fail
              go_ret
              exact ⟨name_ret (by rw [HA.out, HF.out]; (try simp only [beq_eq_false_iff_ne, beq_iff_eq, ne_eq] at hn0); (try simp only [beq_eq_false_iff_ne, beq_iff_eq, ne_eq] at hn1); first | (simp [*]; done) | (simp [*]; omega) | (simp [namedB, *]; done) | (simp [namedB, *]; omega)), (Below.refl _ _).alloc (Nat.le_refl _) _⟩
  case false =>
  cases hk7 : (kind == 31)
  case true =>
    obtain rfl : kind = 31 := by simpa using hk7
    clear hk7
    clear hk0
    clear hk1
    clear hk2
    clear hk3
    clear hk4
    clear hk5
    clear hk6
    generalize nameB s = nb at *
    cases hn0 : (n == 0)
    all_goals
      go_enter Tryd.func66, Tryd.ntmps66
      go_wp2_with fail
      refine (C2.out _).mono ?_
      rintro e w1 ⟨rfl, rfl⟩
      cases nb
      all_goals
        go_wp2_with fail
        first
          | focus
              go_ret
              exact ⟨name_ret (by rw [HA.out, HF.out]; (try simp only [beq_eq_false_iff_ne, beq_iff_eq, ne_eq] at hn0); (try simp only [beq_eq_false_iff_ne, beq_iff_eq, ne_eq] at hn1); first | (simp [*]; done) | (simp [*]; omega) | (simp [namedB, *]; done) | (simp [namedB, *]; omega)), (Below.refl _ _).alloc (Nat.le_refl _) _⟩
          | focus
              refine (C3.out _).mono ?_
              rintro e w2 ⟨rfl, rfl⟩
              go_wp2_with fail
              go_ret
              exact ⟨name_ret (by rw [HA.out, HF.out]; (try simp only [beq_eq_false_iff_ne, beq_iff_eq, ne_eq] at hn0); (try simp only [beq_eq_false_iff_ne, beq_iff_eq, ne_eq] at hn1); first | (simp [*]; done) | (simp [*]; omega) | (simp [namedB, *]; done) | (simp [namedB, *]; omega)), (Below.refl _ _).alloc (Nat.le_refl _) _⟩
  case false =>
  have hnm : namedB kind = false := by
    simp only [beq_eq_false_iff_ne] at *
    simp [namedB, *]
  cases s
  all_goals cases hn0 : (n == 0)
  all_goals
    go_enter Tryd.func66, Tryd.ntmps66
    go_wp2_with fail
    first
      | focus
          go_ret
          exact ⟨name_ret (by rw [HA.out, HF.out]; (try simp only [beq_eq_false_iff_ne, beq_iff_eq, ne_eq] at hn0); (try simp only [beq_eq_false_iff_ne, beq_iff_eq, ne_eq] at hn1); first | (simp [*]; done) | (simp [*]; omega) | (simp [namedB, *]; done) | (simp [namedB, *]; omega)), (Below.refl _ _).alloc (Nat.le_refl _) _⟩
      | focus
          refine (C3.out _).mono ?_
          rintro e w2 ⟨rfl, rfl⟩
          go_wp2_with fail
          go_ret
          exact ⟨name_ret (by rw [HA.out, HF.out]; (try simp only [beq_eq_false_iff_ne, beq_iff_eq, ne_eq] at hn0); (try simp only [beq_eq_false_iff_ne, beq_iff_eq, ne_eq] at hn1); first | (simp [*]; done) | (simp [*]; omega) | (simp [namedB, *]; done) | (simp [namedB, *]; omega)), (Below.refl _ _).alloc (Nat.le_refl _) _⟩
end Go.Proofs.YtjhgljfmheopmaaDoor
