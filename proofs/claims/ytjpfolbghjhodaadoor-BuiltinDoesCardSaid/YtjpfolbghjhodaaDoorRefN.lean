/- The walks over patoisref.Letter and patoisref.Name: they say what package text's say. A bound on the length. -/
import Derived.Test.YtjpfolbghjhodaaDoorNameW
import Derived.Outline
set_option linter.unusedVariables false
set_option linter.unusedSimpArgs false
namespace Go.Proofs.YtjpfolbghjhodaaDoor
open Go.RowKit

def letterZ (n : Int) : Bool := decide (97 ≤ n) && decide (n ≤ 122) || decide (65 ≤ n) && decide (n ≤ 90) || decide (48 ≤ n) && decide (n ≤ 57) || n == 95
theorem letter_all : ((List.range 256).all fun n => letterZ (n : Int) == goesZ (n : Int)) = true := by kernel_rfl
theorem begins_all : ((List.range 256).all fun n => (letterZ (n : Int) && !(decide (48 ≤ (n : Int)) && decide ((n : Int) ≤ 57))) == beginsZ (n : Int)) = true := by kernel_rfl
theorem letter_eq (n : Nat) (h : n < 256) : letterZ (n : Int) = goesZ (n : Int) := by
  have := List.all_eq_true.1 letter_all n (List.mem_range.2 h)
  simpa using this
theorem begins_eq (n : Nat) (h : n < 256) : (letterZ (n : Int) && !(decide (48 ≤ (n : Int)) && decide ((n : Int) ≤ 57))) = beginsZ (n : Int) := by
  have := List.all_eq_true.1 begins_all n (List.mem_range.2 h)
  exact beq_iff_eq.1 this
set_option maxHeartbeats 2000000 in
theorem letter_any (n : Int) (w : World) : Calls Tryd.prog 75 #[.int .u8 n] w fun e w' => e = .returned (.bool (letterZ n)) ∧ w' = w := by
  have HZ := Lib.hid (show letterZ n = (decide (97 ≤ n) && decide (n ≤ 122) || decide (65 ≤ n) && decide (n ≤ 90) || decide (48 ≤ n) && decide (n ≤ 57) || n == 95) from rfl)
  generalize letterZ n = Z at *
  cases h1 : decide (97 ≤ n) <;> cases h2 : decide (n ≤ 122) <;> cases h3 : decide (65 ≤ n) <;> cases h4 : decide (n ≤ 90) <;> cases h5 : decide (48 ≤ n) <;> cases h6 : decide (n ≤ 57)
  all_goals first
    | (exfalso; simp only [decide_eq_true_eq, decide_eq_false_iff_not] at h1 h2 h3 h4 h5 h6; omega)
    | skip
  all_goals
    go_enter Tryd.func75, Tryd.ntmps75
    go_wp2_with fail
    go_ret
    exact ⟨name_ret (by rw [HZ.out, h1, h2, h3, h4, h5, h6]; rfl), rfl⟩

theorem nameB_cons (c : UInt8) (t : List UInt8) : nameB (c :: t) = (decide (t.length < 20) && !(decide (48 ≤ (c.toNat : Int)) && decide ((c.toNat : Int) ≤ 57)) && (c :: t).all fun d => letterZ d.toNat) := by
  have h0 : ∀ d : UInt8, letterZ d.toNat = goesZ d.toNat := fun d => letter_eq d.toNat d.toNat_lt
  have h1 := begins_eq c.toNat c.toNat_lt
  have h2 : ((c :: t).all fun d => letterZ d.toNat) = (c :: t).all fun d => goesZ d.toNat := by congr 1; funext d; exact h0 d
  rw [nameB, ← h1, h2, List.all_cons, h0 c]
  cases decide (t.length < 20) <;> cases goesZ c.toNat <;> cases (decide (48 ≤ (c.toNat : Int)) && decide ((c.toNat : Int) ≤ 57)) <;> rfl

set_option maxHeartbeats 2000000 in
theorem name5_any (l : List UInt8) (w : World) (hl : l.length ≤ 4000000) : Calls Tryd.prog 44 #[.string ⟨l.toArray⟩] w fun e w' => e = .returned (.bool (nameB l)) ∧ w' = w := by
  cases l with
  | nil =>
    go_enter Tryd.func44, Tryd.ntmps44
    go_wp2_with fail
    go_ret
    exact ⟨rfl, rfl⟩
  | cons c t =>
    have HNB := Lib.hid (nameB_cons c t)
    by_cases h20 : t.length < 20
    · have h20' : decide ((20 : Int) < (t.length : Int) + 1) = false := decide_eq_false (by omega)
      have h1' : decide ((t.length : Int) + 1 < 1) = false := decide_eq_false (by omega)
      have HT := Lib.hid (show decide (t.length < 20) = true from decide_eq_true h20)
      obtain ⟨p, hp⟩ : ∃ p, decide (48 ≤ (c.toNat : Int)) = p := ⟨_, rfl⟩
      obtain ⟨q, hq⟩ : ∃ q, decide ((c.toNat : Int) ≤ 57) = q := ⟨_, rfl⟩
      have HP := Lib.hid (show (decide (48 ≤ (c.toNat : Int)) && decide ((c.toNat : Int) ≤ 57)) = (p && q) by rw [hp, hq])
      have hpn : decide (48 ≤ c.toNat) = p := by rw [← hp, Bool.eq_iff_iff, decide_eq_true_eq, decide_eq_true_eq]; omega
      have hqn : decide (c.toNat ≤ 57) = q := by rw [← hq, Bool.eq_iff_iff, decide_eq_true_eq, decide_eq_true_eq]; omega
      have e0 : ({ data := (c :: t).toArray } : ByteArray)[0]'(by simp [ByteArray.size]) = c := rfl
      have HL := Lib.hid (fun (d : UInt8) W => letter_any d.toNat W)
      cases p <;> cases q
      case true.true =>
        have HF := Lib.hid (show nameB (c :: t) = false by rw [HNB.out, HT.out, HP.out]; rfl)
        go_enter Tryd.func44, Tryd.ntmps44
        go_wp2_with fail
        go_ret
        exact ⟨name_ret (by rw [HF.out]), rfl⟩
      all_goals
        have HF := Lib.hid (show nameB (c :: t) = (c :: t).all fun d => letterZ d.toNat by rw [HNB.out, HT.out, HP.out]; rfl)
        go_enter Tryd.func44, Tryd.ntmps44
        go_wp2_with fail
        go_loopw [3] (fun i wr => ∃ k : Nat, k ≤ t.length + 1 ∧ i = .int .i64 k ∧ wr = w ∧ Hid (((c :: t).all fun d => letterZ d.toNat) = ((c :: t).drop k).all fun d => letterZ d.toNat)) (fun i _ => t.length + 1 - (intOf i).toNat)
        case atStart => exact ⟨0, Nat.zero_le _, rfl, rfl, rfl⟩
        case round =>
          obtain ⟨k, hk, rfl, rfl, H⟩ := hrel
          by_cases hlt : k < t.length + 1
          · obtain ⟨d, hd⟩ : ∃ d, d = (c :: t)[k] := ⟨_, rfl⟩
            have hd' : ({ data := (c :: t).toArray } : ByteArray)[k] = d := by rw [hd]; rfl
            have HN := Lib.hid (show ((c :: t).all fun d => letterZ d.toNat) = (letterZ d.toNat && ((c :: t).drop (k + 1)).all fun d => letterZ d.toNat) by
              rw [H.out, List.drop_eq_getElem_cons (by simpa using hlt), List.all_cons, ← hd])
            have HD := Lib.hid hd'
            clear hd hd' H
            go_wp2_with fail
            rw [HD.out]
            refine (HL.out d _).mono ?_
            obtain ⟨b, hb⟩ : ∃ b, b = letterZ d.toNat := ⟨_, rfl⟩
            rw [← hb] at HN ⊢
            clear hb
            rintro e w1 ⟨rfl, rfl⟩
            cases b
            · go_wp2_with fail
              go_ret
              exact ⟨name_ret (by rw [HF.out, HN.out]; rfl), rfl⟩
            · go_wp2_with fail
              go_roundw
              case rel => exact ⟨k + 1, by omega, by go_num, trivial, Lib.hid (by rw [HN.out]; rfl)⟩
              case measure => simp [intOf]; omega
          · obtain rfl : k = t.length + 1 := by omega
            have HE := Lib.hid (show ((c :: t).all fun d => letterZ d.toNat) = true by rw [H.out, List.drop_of_length_le (by simp)]; rfl)
            clear H
            go_wp2_with fail
            go_ret
            exact ⟨name_ret (by rw [HF.out, HE.out]), rfl⟩
    · have h20' : decide ((20 : Int) < (t.length : Int) + 1) = true := decide_eq_true (by omega)
      have h1' : decide ((t.length : Int) + 1 < 1) = false := decide_eq_false (by omega)
      have HF := Lib.hid (show nameB (c :: t) = false by rw [HNB.out, decide_eq_false h20]; rfl)
      go_enter Tryd.func44, Tryd.ntmps44
      go_wp2_with fail
      go_ret
      exact ⟨name_ret (by rw [HF.out]), rfl⟩
end Go.Proofs.YtjpfolbghjhodaaDoor
