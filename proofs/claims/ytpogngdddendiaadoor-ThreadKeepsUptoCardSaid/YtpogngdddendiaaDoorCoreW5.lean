/- The walk over core.fields: whether a node's number and string may be. A bound on the string's length. -/
import Derived.Test.YtpogngdddendiaaDoorCoreW4
import Derived.Outline
set_option linter.unusedVariables false
set_option linter.unusedSimpArgs false
namespace Go.Proofs.YtpogngdddendiaaDoor
open Go.RowKit

theorem isEmpty_len (s : List UInt8) : s.isEmpty = decide (s.length = 0) := by cases s <;> rfl

set_option maxRecDepth 100000 in
set_option maxHeartbeats 4000000 in
theorem fields_any (x : Nd) (w : World) (hs : x.s.length ≤ 4000000) : Calls Tryd.prog 60 #[.agg #[.int .i64 x.kind, .int .i64 x.n, .int .i64 x.k, .int .i64 x.size, .string ⟨x.s.toArray⟩]] w (Ret w (.bool (fieldsB x))) := by
  obtain ⟨kind, n, k, size, s⟩ := x
  simp only at hs ⊢
  have C1 := Lib.hid (show ∀ W, Calls Tryd.prog 89 #[.string ⟨s.toArray⟩] W (Ret W (.bool (!openOf s))) from fun W => closed_any ⟨s.toArray⟩ W (by simpa [ByteArray.size] using hs))
  have C2 := Lib.hid (fun W => tname_any s W hs)
  have C3 := Lib.hid (fun W => named_any kind W)
  have HF := Lib.hid (show fieldsB ⟨kind, n, k, size, s⟩ = (if kind == 1 then (n == 0 || n == 1 && !openOf s) && decide (s.length ≤ 2000)
    else if kind == 11 then decide (1 ≤ n) && decide (n ≤ 99) && s.isEmpty
    else if kind == 33 then decide (1 ≤ n) && decide (n ≤ 3) && s.isEmpty
    else if n != 0 then false
    else if kind == 2 then nameB s || s == [42]
    else if namedB kind then nameB s
    else s.isEmpty) from rfl)
  generalize fieldsB ⟨kind, n, k, size, s⟩ = F at *
  generalize openOf s = ob at *
  generalize nameB s = nb at *
  generalize namedB kind = mb at *
  cases h1 : (kind == 1)
  case true =>
    cases hn0 : (n == 0)
    case true =>
      by_cases hl : s.length ≤ 2000
      all_goals
        go_enter Tryd.func60, Tryd.ntmps60
        go_wp2_with fail
        go_ret
        exact ⟨name_ret (by rw [HF.out]; (try simp [h1, hn0, hl]) <;> omega), (Below.refl _ _).alloc (Nat.le_refl _) _⟩
    case false =>
      cases hn1 : (n == 1)
      case false =>
        go_enter Tryd.func60, Tryd.ntmps60
        go_wp2_with fail
        go_ret
        exact ⟨name_ret (by rw [HF.out]; simp [h1, hn0, hn1]), (Below.refl _ _).alloc (Nat.le_refl _) _⟩
      case true =>
        by_cases hl : s.length ≤ 2000
        all_goals
          go_enter Tryd.func60, Tryd.ntmps60
          go_wp2_with fail
          refine (C1.out _).mono ?_
          cases ob
          all_goals
            rintro e w1 ⟨rfl, hb1⟩
            have c4 := box_cell hb1 4 (by simp)
            simp only [List.size_toArray, List.getElem?_toArray, List.getElem?_cons_succ, List.getElem?_cons_zero] at c4
            go_wp2_with fail
            go_ret
            exact ⟨name_ret (by rw [HF.out]; (try simp [h1, hn0, hn1, hl]) <;> omega), ((Below.refl _ _).alloc (Nat.le_refl _) _).trans (hb1.mono (by simp))⟩
  case false =>
  cases h11 : (kind == 11)
  case true =>
    by_cases hn0 : 1 ≤ n
    all_goals by_cases hn1 : n ≤ 99
    all_goals first
      | (exfalso; omega)
      | (go_enter Tryd.func60, Tryd.ntmps60
         go_wp2_with fail
         go_ret
         exact ⟨name_ret (by rw [HF.out]; (try simp [h1, h11, hn0, hn1]) <;> omega), (Below.refl _ _).alloc (Nat.le_refl _) _⟩)
  case false =>
  cases h33 : (kind == 33)
  case true =>
    by_cases hn0 : 1 ≤ n
    all_goals by_cases hn1 : n ≤ 3
    all_goals first
      | (exfalso; omega)
      | (go_enter Tryd.func60, Tryd.ntmps60
         go_wp2_with fail
         go_ret
         exact ⟨name_ret (by rw [HF.out]; (try simp [h1, h11, h33, hn0, hn1]) <;> omega), (Below.refl _ _).alloc (Nat.le_refl _) _⟩)
  case false =>
  cases hn0 : (n != 0)
  case true =>
    go_enter Tryd.func60, Tryd.ntmps60
    go_wp2_with fail
    go_ret
    exact ⟨name_ret (by rw [HF.out]; (try simp [h1, h11, h33, hn0]) <;> omega), (Below.refl _ _).alloc (Nat.le_refl _) _⟩
  case false =>
  cases h2 : (kind == 2)
  case true =>
    go_enter Tryd.func60, Tryd.ntmps60
    go_wp2_with fail
    refine (C2.out _).mono ?_
    cases nb
    all_goals
      rintro e w1 ⟨rfl, rfl⟩
      go_wp2_with fail
      go_ret
      exact ⟨name_ret (by rw [HF.out]; (try simp [h1, h11, h33, hn0, h2]) <;> omega), (Below.refl _ _).alloc (Nat.le_refl _) _⟩
  case false =>
  go_enter Tryd.func60, Tryd.ntmps60
  go_wp2_with fail
  refine (C3.out _).mono ?_
  cases mb
  all_goals
    rintro e w1 ⟨rfl, hb1⟩
    have c4 := box_cell hb1 4 (by simp)
    simp only [List.size_toArray, List.getElem?_toArray, List.getElem?_cons_succ, List.getElem?_cons_zero] at c4
    go_wp2_with fail
  · go_ret
    exact ⟨name_ret (by rw [HF.out]; (try simp [h1, h11, h33, hn0, h2]) <;> omega), ((Below.refl _ _).alloc (Nat.le_refl _) _).trans (hb1.mono (by simp))⟩
  · refine (C2.out _).mono ?_
    rintro e w2 ⟨rfl, rfl⟩
    go_wp2_with fail
    go_ret
    exact ⟨name_ret (by rw [HF.out]; (try simp [h1, h11, h33, hn0, h2]) <;> omega), ((Below.refl _ _).alloc (Nat.le_refl _) _).trans (hb1.mono (by simp))⟩
end Go.Proofs.YtpogngdddendiaaDoor
