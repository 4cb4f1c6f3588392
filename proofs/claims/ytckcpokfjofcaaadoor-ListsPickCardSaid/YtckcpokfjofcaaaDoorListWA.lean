/- The walks over lists.Count, Same and the document's Parse. Bounds on the lengths. -/
import Derived.Test.YtckcpokfjofcaaaDoorListW9
import Derived.Shelf.Strconv.Itoa0
set_option linter.unusedVariables false
set_option linter.unusedSimpArgs false
namespace Go.Proofs.YtckcpokfjofcaaaDoor
open Go.RowKit

theorem number_small (i : Nat) (hi : i < 100) (w : World) : Calls Tryd.prog 35 #[.int .i64 i] w fun e w' => e = .returned (.string ⟨(Lib.decDigits i).toArray⟩) ∧ w' = w := by
  have HC := Lib.hid (Tryd.strconv_Itoa_small i hi w)
  generalize Lib.decDigits i = d at *
  go_enter Tryd.func35, Tryd.ntmps35
  go_wp2_with fail
  refine HC.out.mono ?_
  rintro e w' ⟨rfl, rfl⟩
  go_wp2_with fail
  go_ret
  exact ⟨rfl, rfl⟩
theorem count_any (v : Value) (L : List (List UInt8)) (w : World) (hv : SlS w v L) (hL : L.length < 100) : Calls Tryd.prog 20 #[v] w (OwnRet [Lib.decDigits L.length] w) := by
  obtain ⟨A, c, rfl, hrd, _⟩ := hv
  have HC := Lib.hid (number_small L.length hL w)
  generalize Lib.decDigits L.length = d at *
  generalize L.length = m at *
  clear hrd
  go_enter Tryd.func20, Tryd.ntmps20
  go_wp2_with fail
  refine HC.out.mono ?_
  rintro e w' ⟨rfl, rfl⟩
  go_wp2_with fail
  go_ret
  exact ⟨_, rfl, World.ownsRow_lit w' #[.string ⟨d.toArray⟩] 1 (Nat.le_refl _) (by decide) rfl, below1 w' _⟩
/-- A numeral's number. -/
def valD (l : List UInt8) : Nat := l.foldl (fun a c => 10 * a + (c.toNat - 48)) 0
def numeral (l : List UInt8) : Bool := decide (1 ≤ l.length) && decide (l.length ≤ 9) && (decide (l.length = 1) || decide (l.head? ≠ some 48)) && l.all (fun c => decide (48 ≤ c.toNat) && decide (c.toNat ≤ 57))
theorem dec_numeral : ∀ n, n < 61 → numeral (Lib.decDigits n) = true ∧ valD (Lib.decDigits n) = n := by decide +kernel
theorem valD_snoc (l : List UInt8) (c : UInt8) : valD (l ++ [c]) = 10 * valD l + (c.toNat - 48) := by simp [valD]
theorem valD_le : ∀ (n : Nat) (l : List UInt8), l.length ≤ n → (∀ c ∈ l, c.toNat ≤ 57) → valD l < 10 ^ l.length
  | n, l, hn, h => by
    rcases List.eq_nil_or_concat l with rfl | ⟨t, c, rfl⟩
    · decide
    · rw [List.concat_eq_append] at *
      have hl : t.length < (t ++ [c]).length := by simp
      have ih := valD_le (n - 1) t (by simp at hn; omega) (fun x hx => h x (by simp [hx]))
      have hc := h c (by simp)
      rw [valD_snoc, List.length_append, List.length_singleton, Nat.pow_succ]
      omega
  termination_by _ l => l.length
theorem take_u8s (s : ByteArray) (k : Nat) (h : k < s.size) : s.data.toList.take (k + 1) = s.data.toList.take k ++ [s[k]] := by
  rw [List.take_succ_eq_append_getElem (by simpa using h)]; rfl
set_option maxRecDepth 100000 in
theorem parse_any (s : ByteArray) (w : World) (h : numeral s.data.toList = true) : Calls Tryd.prog 22 #[.string s] w fun e w' => e = .returned (.int .i64 (valD s.data.toList)) ∧ w' = w := by
  simp only [numeral, Bool.and_eq_true, Bool.or_eq_true, decide_eq_true_eq, List.all_eq_true] at h
  obtain ⟨⟨⟨h1, h9⟩, hz⟩, hd⟩ := h
  have HD := Lib.hid (show ∀ k (hk : k < s.size), 48 ≤ (s[k]).toNat ∧ (s[k]).toNat ≤ 57 from fun k hk => hd _ (List.getElem_mem (show k < s.data.toList.length by simpa using hk)))
  have HV := Lib.hid (show ∀ k, k ≤ s.size → valD (s.data.toList.take k) ≤ 1000000000 from fun k hk => by
    have := valD_le k (s.data.toList.take k) (by simp; omega) (fun c hc => (hd c (List.mem_of_mem_take hc)).2)
    have h2 : 10 ^ (s.data.toList.take k).length ≤ 10 ^ 9 := Nat.pow_le_pow_right (by decide) (by rw [List.length_take]; omega)
    omega)
  have g1 : 1 ≤ s.size := by simpa using h1
  have g9 : s.size ≤ 9 := by simpa using h9
  have hs0 : ((s.size : Int) == 0) = false := by rw [beq_eq_false_iff_ne]; omega
  have hz2 : s.size = 1 ∨ (((s[0]'(by omega)).toNat : Int) == 48) = false := by
    rcases hz with hz | hz
    · exact .inl (by simpa using hz)
    · refine .inr ?_
      rw [beq_eq_false_iff_ne]
      intro he
      apply hz
      rw [List.head?_eq_getElem?, List.getElem?_eq_getElem (by simpa using (show 0 < s.size from g1))]
      have h48 : (s[0]'(by omega)).toNat = 48 := by omega
      have h49 : s[0]'(by omega) = 48 := UInt8.toNat_inj.1 h48
      exact congrArg some h49
  clear hd hz h1 h9
  have HE := Lib.hid (show valD s.data.toList = valD (s.data.toList.take s.size) by rw [List.take_of_length_le (by simp)])
  go_enter Tryd.func22, Tryd.ntmps22
  by_cases hs1 : s.size = 1
  · have hg : ¬ (1 : Int) < (s.size : Int) := by omega
    clear hz2 hs1
    go_wp2_with fail
    go_loopw [3, 4] (fun v i wr => ∃ k n : Nat, k ≤ s.size ∧ i = .int .i64 k ∧ v = .int .i64 n ∧ n ≤ 1000000000 ∧ wr = w ∧ Hid (n = valD (s.data.toList.take k))) (fun _ i _ => s.size - (intOf i).toNat)
    case atStart => exact ⟨0, 0, Nat.zero_le _, rfl, rfl, by decide, rfl, Lib.hid rfl⟩
    case round =>
      obtain ⟨k, n, hk, rfl, rfl, hn, rfl, HNK⟩ := hrel
      by_cases hlt : k < s.size
      · obtain ⟨g48, g57⟩ := HD.out k hlt
        have HT := Lib.hid (show valD (s.data.toList.take (k + 1)) = 10 * n + (s[k].toNat - 48) by rw [take_u8s s k hlt, valD_snoc, ← HNK.out])
        have hle := HV.out (k + 1) hlt
        rw [HT.out] at hle
        generalize hsk : s[k] = c at *
        clear HNK
        go_wp2_with fail
        go_roundw
        case rel => exact ⟨k + 1, 10 * n + (c.toNat - 48), by omega, by go_num, by go_num, by omega, trivial, Lib.hid HT.out.symm⟩
        case measure => simp [intOf]; omega
      · obtain rfl : s.size = k := by omega
        have HF := Lib.hid (show n = valD s.data.toList by rw [HE.out]; exact HNK.out)
        go_wp2_with fail
        go_ret
        obtain rfl := HF.out
        exact ⟨rfl, rfl⟩
  · have hg : (1 : Int) < (s.size : Int) := by omega
    have hz3 : (((s[0]'(by omega)).toNat : Int) == 48) = false := by
      rcases hz2 with h | h
      · exact absurd h hs1
      · exact h
    clear hz2 hs1
    go_wp2_with fail
    go_loopw [3, 4] (fun v i wr => ∃ k n : Nat, k ≤ s.size ∧ i = .int .i64 k ∧ v = .int .i64 n ∧ n ≤ 1000000000 ∧ wr = w ∧ Hid (n = valD (s.data.toList.take k))) (fun _ i _ => s.size - (intOf i).toNat)
    case atStart => exact ⟨0, 0, Nat.zero_le _, rfl, rfl, by decide, rfl, Lib.hid rfl⟩
    case round =>
      obtain ⟨k, n, hk, rfl, rfl, hn, rfl, HNK⟩ := hrel
      by_cases hlt : k < s.size
      · obtain ⟨g48, g57⟩ := HD.out k hlt
        have HT := Lib.hid (show valD (s.data.toList.take (k + 1)) = 10 * n + (s[k].toNat - 48) by rw [take_u8s s k hlt, valD_snoc, ← HNK.out])
        have hle := HV.out (k + 1) hlt
        rw [HT.out] at hle
        generalize hsk : s[k] = c at *
        clear HNK
        go_wp2_with fail
        go_roundw
        case rel => exact ⟨k + 1, 10 * n + (c.toNat - 48), by omega, by go_num, by go_num, by omega, trivial, Lib.hid HT.out.symm⟩
        case measure => simp [intOf]; omega
      · obtain rfl : s.size = k := by omega
        have HF := Lib.hid (show n = valD s.data.toList by rw [HE.out]; exact HNK.out)
        go_wp2_with fail
        go_ret
        obtain rfl := HF.out
        exact ⟨rfl, rfl⟩
end Go.Proofs.YtckcpokfjofcaaaDoor
