/- The walk over patoisref2.Closed: it says what pattern.Closed says. Bounds on the length. -/
import Derived.Test.YtckcpokfjofcaaaPatM
import Derived.Test.YtckcpokfjofcaaaRef2W2
import Derived.Outline
set_option linter.unusedVariables false
set_option linter.unusedSimpArgs false
namespace Go.Proofs.Ytckcpokfjofcaaa
open Go.RowKit

def openS : Bool → List UInt8 → Bool
  | o, [] => o
  | o, c :: t => openS (c == 92 && !o) t
theorem openOf_cons (c : UInt8) (t : List UInt8) : openOf (c :: t) = if c == 92 then (match t with | [] => true | _ :: t' => openOf t') else openOf t := by
  cases t <;> simp [openOf]
theorem openS_false : ∀ (n : Nat) (l : List UInt8), l.length ≤ n → openS false l = openOf l
  | _, [], _ => rfl
  | 0, c :: t, h => by simp at h
  | n + 1, c :: t, h => by
    rw [openS, openOf_cons]
    cases hc : (c == 92)
    · simp only [Bool.false_and, Bool.false_eq_true, if_false]
      exact openS_false n t (by simpa using h)
    · simp only [Bool.not_false, Bool.and_self, if_true]
      cases t with
      | nil => rfl
      | cons d t =>
        rw [openS]
        simp only [Bool.not_true, Bool.and_false]
        exact openS_false n t (by simp at h; omega)

set_option maxHeartbeats 1000000 in
theorem closed2_any (l : List UInt8) (w : World) (hl : l.length ≤ 4000000) : Calls Try.prog 7 #[.string ⟨l.toArray⟩] w fun e w' => e = .returned (.bool (!openOf l)) ∧ w' = w := by
  have HO := Lib.hid (openS_false l.length l (Nat.le_refl _))
  go_enter Try.func7, Try.ntmps7
  go_wp2_with fail
  go_loopw [3, 4] (fun v i wr => ∃ (k : Nat) (o : Bool), k ≤ l.length ∧ i = .int .i64 k ∧ v = .bool o ∧ Hid (openS false l = openS o (l.drop k)) ∧ wr = w) (fun _ i _ => l.length - (intOf i).toNat)
  case atStart => exact ⟨0, false, Nat.zero_le _, rfl, rfl, rfl, rfl⟩
  case round =>
    obtain ⟨k, o, hk, rfl, rfl, HS, rfl⟩ := hrel
    by_cases hlt : k < l.length
    · obtain ⟨d, hd⟩ : ∃ d, d = l[k] := ⟨_, rfl⟩
      have hd' : ({ data := l.toArray } : ByteArray)[k]'(by simpa [ByteArray.size] using hlt) = d := by rw [hd]; rfl
      have HN := Lib.hid (show openS false l = openS (d == 92 && !o) (l.drop (k + 1)) by rw [HS.out, List.drop_eq_getElem_cons hlt, openS, hd])
      obtain ⟨b, hb⟩ : ∃ b, (d == 92) = b := ⟨_, rfl⟩
      have hb2 : ((d.toNat : Int) == 92) = b := by
        rw [← hb, Bool.eq_iff_iff, beq_iff_eq, beq_iff_eq]
        constructor
        · intro h; exact UInt8.toNat_inj.1 (by rw [show (92 : UInt8).toNat = 92 from rfl]; omega)
        · intro h; rw [h]; rfl
      rw [hb] at HN
      clear hd hb HS
      cases b
      · go_wp2_with fail
        go_roundw
        case rel => exact ⟨k + 1, false, by omega, by go_num, rfl, HN, trivial⟩
        case measure => simp [intOf]; omega
      · go_wp2_with fail
        go_roundw
        case rel => exact ⟨k + 1, !o, by omega, by go_num, rfl, by simpa using HN, trivial⟩
        case measure => simp [intOf]; omega
    · obtain rfl : k = l.length := by omega
      have HF := Lib.hid (show openOf l = o by rw [← HO.out, HS.out, List.drop_of_length_le (Nat.le_refl _)]; rfl)
      go_wp2_with fail
      go_ret
      exact ⟨name_ret2 (by rw [HF.out]), rfl⟩
end Go.Proofs.Ytckcpokfjofcaaa
