/- The walks over text.Name and what it calls: it tells just whether a text is a name. A bound on the length. -/
import Derived.Test.YtpogngdddendiaaDoorPatW1
import Derived.Test.YtpogngdddendiaaDoorBase
import Derived.Outline
set_option linter.unusedVariables false
set_option linter.unusedSimpArgs false
namespace Go.Proofs.YtpogngdddendiaaDoor
open Go.RowKit

def beginsZ (n : Int) : Bool := decide (97 ≤ bits .or .u8 n 32) && decide (bits .or .u8 n 32 ≤ 122) || n == 95
def goesZ (n : Int) : Bool := beginsZ n || decide (48 ≤ n) && decide (n ≤ 57)
def nameB (l : List UInt8) : Bool := match l with
  | [] => false
  | c :: t => decide (t.length < 20) && beginsZ c.toNat && (c :: t).all fun d => goesZ d.toNat

theorem name_ret {a b : Bool} (h : a = b) : Ending.returned (.bool a) = .returned (.bool b) := by rw [h]

set_option maxHeartbeats 400000 in
theorem begins_any (n : Int) (w : World) :
    Calls Tryd.prog 122 #[.int .u8 n] w fun e w' => e = .returned (.bool (beginsZ n)) ∧ w' = w := by
  by_cases h1 : 97 ≤ bits .or .u8 n 32
  all_goals by_cases h2 : bits .or .u8 n 32 ≤ 122
  all_goals cases h3 : (n == 95)
  all_goals
    go_enter Tryd.func122, Tryd.ntmps122
    go_wp2_with fail
    go_ret
    exact ⟨by simp [beginsZ, h1, h2, h3], rfl⟩

set_option maxHeartbeats 400000 in
theorem goes_any (n : Int) (w : World) :
    Calls Tryd.prog 123 #[.int .u8 n] w fun e w' => e = .returned (.bool (goesZ n)) ∧ w' = w := by
  have HB := Lib.hid (begins_any n)
  obtain ⟨b, hb⟩ : ∃ b, b = beginsZ n := ⟨_, rfl⟩
  rw [← hb] at HB
  have HG := Lib.hid (show goesZ n = (b || decide (48 ≤ n) && decide (n ≤ 57)) by rw [hb]; rfl)
  clear hb
  cases b
  · by_cases h1 : 48 ≤ n
    all_goals by_cases h2 : n ≤ 57
    all_goals first
      | (exfalso; omega)
      | (go_enter Tryd.func123, Tryd.ntmps123
         go_wp2_with fail
         refine (HB.out _).mono ?_
         rintro e w1 ⟨rfl, rfl⟩
         go_wp2_with fail
         go_ret
         exact ⟨name_ret (by rw [HG.out]; simp [h1, h2]), rfl⟩)
  · go_enter Tryd.func123, Tryd.ntmps123
    go_wp2_with fail
    refine (HB.out _).mono ?_
    rintro e w1 ⟨rfl, rfl⟩
    go_wp2_with fail
    go_ret
    exact ⟨by rw [HG.out]; rfl, rfl⟩

set_option maxHeartbeats 2000000 in
theorem tname_any (l : List UInt8) (w : World) (hl : l.length ≤ 4000000) :
    Calls Tryd.prog 90 #[.string ⟨l.toArray⟩] w fun e w' => e = .returned (.bool (nameB l)) ∧ w' = w := by
  cases l with
  | nil =>
    go_enter Tryd.func90, Tryd.ntmps90
    go_wp2_with fail
    go_ret
    exact ⟨rfl, rfl⟩
  | cons c t =>
    obtain ⟨m, hm⟩ : ∃ m, m = t.length := ⟨_, rfl⟩
    by_cases h20 : t.length < 20
    · obtain ⟨b, hb⟩ : ∃ b, b = beginsZ c.toNat := ⟨_, rfl⟩
      have HB := Lib.hid (begins_any c.toNat)
      have h20' : decide ((20 : Int) < (t.length : Int) + 1) = false := decide_eq_false (by omega)
      rw [← hb] at HB
      have HBE := Lib.hid hb
      clear hb
      go_enter Tryd.func90, Tryd.ntmps90
      go_wp2_with fail
      refine (HB.out _).mono ?_
      rintro e w1 ⟨rfl, rfl⟩
      cases b
      · go_wp2_with fail
        go_ret
        exact ⟨name_ret (by simp [nameB, ← HBE.out]), rfl⟩
      · go_wp2_with fail
        go_loopw [19] (fun i wr => ∃ k : Nat, k ≤ t.length + 1 ∧ i = .int .i64 k ∧ wr = w1 ∧ Hid (((c :: t).all fun d => goesZ d.toNat) = ((c :: t).drop k).all fun d => goesZ d.toNat)) (fun i _ => t.length + 1 - (intOf i).toNat)
        case atStart => exact ⟨0, Nat.zero_le _, rfl, rfl, rfl⟩
        case round =>
          obtain ⟨k, hk, rfl, rfl, H⟩ := hrel
          by_cases hlt : k < t.length + 1
          · obtain ⟨d, hd⟩ : ∃ d, d = (c :: t)[k] := ⟨_, rfl⟩
            have hd' : ({ data := (c :: t).toArray } : ByteArray)[k] = d := by rw [hd]; rfl
            have HN := Lib.hid (show ((c :: t).all fun d => goesZ d.toNat) = (goesZ d.toNat && ((c :: t).drop (k + 1)).all fun d => goesZ d.toNat) by
              rw [H.out, List.drop_eq_getElem_cons (by simpa using hlt), List.all_cons, ← hd])
            have HD := Lib.hid hd'
            clear hd hd' H
            go_wp2_with fail
            rw [HD.out]
            refine (goes_any _ _).mono ?_
            obtain ⟨b, hb⟩ : ∃ b, b = goesZ d.toNat := ⟨_, rfl⟩
            rw [← hb] at HN ⊢
            clear hb
            cases b
            all_goals
              rintro e w2 ⟨rfl, rfl⟩
              go_wp2_with fail
            · go_ret
              exact ⟨name_ret (by rw [nameB, HN.out]; simp), rfl⟩
            · go_roundw
              case rel => exact ⟨k + 1, by omega, by go_num, trivial, Lib.hid (by rw [HN.out]; simp)⟩
              case measure => simp [intOf]; omega
          · obtain rfl : k = t.length + 1 := by omega
            have HN := Lib.hid (show ((c :: t).all fun d => goesZ d.toNat) = true by
              rw [H.out, List.drop_of_length_le (by simp)]; rfl)
            clear H
            go_wp2_with fail
            go_ret
            exact ⟨name_ret (by rw [nameB, HN.out, ← HBE.out]; simp [h20]), rfl⟩
    · go_enter Tryd.func90, Tryd.ntmps90
      go_wp2_with fail
      go_ret
      exact ⟨name_ret (by simp [nameB, h20]), rfl⟩
end Go.Proofs.YtpogngdddendiaaDoor
