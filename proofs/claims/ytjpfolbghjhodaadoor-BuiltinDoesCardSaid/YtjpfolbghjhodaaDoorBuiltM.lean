/- Numbers as text and back, lines of a text, as chapters 1 and 8 have them. No program in sight. -/
import Derived.Lib.ItoaNum
set_option linter.unusedVariables false
set_option linter.unusedSimpArgs false
namespace Go.Proofs.YtjpfolbghjhodaaDoor
open Go.Lib

def digB (c : UInt8) : Bool := decide (48 ≤ c.toNat) && decide (c.toNat ≤ 57)
def valG : List UInt8 → Nat → Nat
  | [], n => n
  | c :: t, n => valG t (10 * n + (c.toNat - 48))
theorem valG_snoc : ∀ (l : List UInt8) (c : UInt8) (n : Nat), valG (l ++ [c]) n = 10 * valG l n + (c.toNat - 48)
  | [], c, n => rfl
  | d :: t, c, n => by rw [List.cons_append, valG, valG, valG_snoc t c]
/-- The number of a text. -/
def parseL (s : List UInt8) : Nat × Bool :=
  if s.length = 0 ∨ 9 < s.length ∨ (s.head? = some 48 ∧ 1 < s.length) then (0, false)
  else if s.all digB = true then (valG s 0, true) else (0, false)
theorem dig_nat (d : Nat) (h : d < 10) : (UInt8.ofNat (48 + d)).toNat = 48 + d := by
  rw [UInt8.toNat_ofNat']
  omega
theorem dec_val : ∀ n : Nat, valG (decDigits n) 0 = n := by
  intro n
  induction n using Nat.strongRecOn with
  | ind n ih =>
    rw [decDigits]
    split
    · rename_i h
      simp only [valG]
      rw [dig_nat n h]
      omega
    · rename_i h
      rw [valG_snoc, ih (n / 10) (by omega), dig_nat (n % 10) (by omega)]
      omega
theorem dec_all : ∀ n : Nat, (decDigits n).all digB = true := by
  intro n
  induction n using Nat.strongRecOn with
  | ind n ih =>
    have key : ∀ d, d < 10 → digB (UInt8.ofNat (48 + d)) = true := fun d hd => by
      unfold digB
      rw [dig_nat d hd, Bool.and_eq_true]
      exact ⟨decide_eq_true (by omega), decide_eq_true (by omega)⟩
    rw [decDigits]
    split
    · rename_i h
      rw [List.all_cons, key n h]
      rfl
    · rename_i h
      rw [List.all_append, ih (n / 10) (by omega), List.all_cons, key (n % 10) (by omega)]
      rfl
theorem dec_pos (n : Nat) : 1 ≤ (decDigits n).length := by rw [decDigits_length]; exact nDigits_pos n
theorem dec_head : ∀ n : Nat, 1 ≤ n → (decDigits n).head? ≠ some 48 := by
  intro n
  induction n using Nat.strongRecOn with
  | ind n ih =>
    intro h1
    rw [decDigits]
    split
    · rename_i h
      simp only [List.head?_cons, ne_eq, Option.some.injEq]
      intro he
      have := congrArg UInt8.toNat he
      rw [dig_nat n h] at this
      simp at this
      omega
    · rename_i h
      have h2 := ih (n / 10) (by omega) (by omega)
      have h3 := dec_pos (n / 10)
      cases hd : decDigits (n / 10) with
      | nil => rw [hd] at h3; simp at h3
      | cons c t =>
        rw [hd] at h2
        simpa using h2
theorem dec_len : ∀ (k n : Nat), n < 10 ^ (k + 1) → (decDigits n).length ≤ k + 1
  | 0, n, h => by
    rw [decDigits, dif_pos (by simpa using h)]
    simp
  | k + 1, n, h => by
    rw [decDigits]
    split
    · simp
    · have := dec_len k (n / 10) (by rw [Nat.pow_succ] at h; omega)
      simp only [List.length_append, List.length_cons, List.length_nil]
      omega
theorem parse_dec {n : Nat} (h : n < 1000000000) : parseL (decDigits n) = (n, true) := by
  have h1 := dec_len 8 n h
  have h2 := dec_pos n
  unfold parseL
  rw [if_neg, if_pos (dec_all n), dec_val]
  rintro (h3 | h3 | ⟨h3, h4⟩)
  · omega
  · omega
  · rcases Nat.eq_zero_or_pos n with rfl | hn
    · rw [decDigits, dif_pos (by decide)] at h4
      simp at h4
    · exact dec_head n hn h3
/-- The first line, and what is behind it. -/
def cutN : List UInt8 → List UInt8 × List UInt8
  | [] => ([], [])
  | c :: t => if c = 10 then ([], t) else (c :: (cutN t).1, (cutN t).2)
theorem cutN_le : ∀ l : List UInt8, (cutN l).1.length + (cutN l).2.length ≤ l.length
  | [] => by simp [cutN]
  | c :: t => by
    have := cutN_le t
    rw [cutN]
    split
    · simp
    · simp only [List.length_cons]; omega
theorem cutN_no : ∀ (l : List UInt8), ∀ c ∈ (cutN l).1, c ≠ 10
  | [], c, h => by simp [cutN] at h
  | d :: t, c, h => by
    rw [cutN] at h
    split at h
    · simp at h
    · rename_i hd
      simp only [List.mem_cons] at h
      rcases h with rfl | h
      · exact hd
      · exact cutN_no t c h
theorem cutN_join : ∀ l : List UInt8, l = (cutN l).1 ++ 10 :: (cutN l).2 ∨ (l = (cutN l).1 ∧ (cutN l).2 = [])
  | [] => .inr ⟨rfl, rfl⟩
  | c :: t => by
    rw [cutN]
    split
    · rename_i h
      left
      rw [h]
      rfl
    · rcases cutN_join t with h | ⟨h, h'⟩
      · left
        simp only [List.cons_append]
        rw [← h]
      · right
        simp only
        rw [← h, h']
        exact ⟨rfl, rfl⟩
theorem cutN_lt {l : List UInt8} (h : l ≠ []) : (cutN l).2.length < l.length := by
  cases l with
  | nil => exact absurd rfl h
  | cons c t =>
    have := cutN_le t
    rw [cutN]
    split
    · simp
    · simp only [List.length_cons]; omega
/-- One line more: what has been read and what is left make the text, or the text and a line's end. -/
def ReadI (all rest inp : List UInt8) : Prop := all ++ rest = inp ∨ (rest = [] ∧ all = inp ++ [10])
theorem readI_start (inp : List UInt8) : ReadI [] inp inp := .inl rfl
theorem readI_step {all rest inp : List UInt8} (h : ReadI all rest inp) (hr : rest ≠ []) : ReadI (all ++ (cutN rest).1 ++ [10]) (cutN rest).2 inp := by
  rcases h with h | ⟨h, _⟩
  · rcases cutN_join rest with e | ⟨e, e'⟩
    · left
      rw [← h]
      conv => rhs; rw [e]
      simp
    · right
      refine ⟨e', ?_⟩
      rw [← e, h]
  · exact absurd h hr
theorem readI_end {all inp : List UInt8} (h : ReadI all [] inp) : all = inp ∨ all = inp ++ [10] := by
  rcases h with h | ⟨_, h⟩
  · left; simpa using h
  · exact .inr h
end Go.Proofs.YtjpfolbghjhodaaDoor
