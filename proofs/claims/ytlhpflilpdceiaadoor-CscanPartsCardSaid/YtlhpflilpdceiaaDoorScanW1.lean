/- The walks over package text's functions that read a source: begins, goesOn, Byte, Slice, Len. No condition. -/
import Derived.Test.YtlhpflilpdceiaaDoorScanB
import Derived.Test.YtlhpflilpdceiaaDoorScanC
import Derived.Test.YtlhpflilpdceiaaDoorShelf
set_option linter.unusedVariables false
set_option linter.unusedSimpArgs false
namespace Go.Proofs.YtlhpflilpdceiaaDoor
open Go.RowKit

theorem all256 {P : UInt8 → Prop} (h : ∀ n : Fin 256, P (UInt8.ofNat n.val)) (c : UInt8) : P c := by
  have := h ⟨c.toNat, c.toNat_lt⟩
  simpa using this
theorem or32 (c : UInt8) : bits .or .u8 (c.toNat : Int) 32 = (((c ||| 32).toNat : Nat) : Int) := all256 (P := fun c => bits .or .u8 (c.toNat : Int) 32 = (((c ||| 32).toNat : Nat) : Int)) (by decide +kernel) c
theorem nameB_nat (c : UInt8) : nameB c = ((decide (97 ≤ (c ||| 32).toNat) && decide ((c ||| 32).toNat ≤ 122)) || decide (c.toNat = 95)) := by
  unfold nameB
  have h1 : (97 ≤ c ||| 32) = (97 ≤ (c ||| 32).toNat) := by rw [UInt8.le_iff_toNat_le]; rfl
  have h2 : (c ||| 32 ≤ 122) = ((c ||| 32).toNat ≤ 122) := by rw [UInt8.le_iff_toNat_le]; rfl
  have h3 : (c = 95) = (c.toNat = 95) := by rw [← UInt8.toNat_inj]; rfl
  simp only [h1, h2, h3]
theorem nameG_nat (c : UInt8) : nameG c = (nameB c || (decide (48 ≤ c.toNat) && decide (c.toNat ≤ 57))) := by
  unfold nameG
  have h1 : (48 ≤ c) = (48 ≤ c.toNat) := by rw [UInt8.le_iff_toNat_le]; rfl
  have h2 : (c ≤ 57) = (c.toNat ≤ 57) := by rw [UInt8.le_iff_toNat_le]; rfl
  simp only [h1, h2]
theorem idx_end (c : UInt8) : decide (0 ≤ Lib.indexByte [32, 9, 10, 59] c) = endB c := all256 (P := fun c => decide (0 ≤ Lib.indexByte [32, 9, 10, 59] c) = endB c) (by decide +kernel) c
theorem idx_esc (c : UInt8) : decide (0 ≤ Lib.indexByte [34, 92, 36, 91] c) = (decide (c = 34) || decide (c = 92) || decide (c = 36) || decide (c = 91)) := all256 (P := fun c => decide (0 ≤ Lib.indexByte [34, 92, 36, 91] c) = (decide (c = 34) || decide (c = 92) || decide (c = 36) || decide (c = 91))) (by decide +kernel) c

set_option maxHeartbeats 1000000 in
theorem begins_any (c : UInt8) (w : World) : Calls Tryd.prog 88 #[.int .u8 c.toNat] w fun e w' => e = .returned (.bool (nameB c)) ∧ w' = w := by
  have ho := or32 c
  rw [nameB_nat]
  generalize (c ||| 32).toNat = m at *
  generalize c.toNat = k at *
  by_cases h1 : 97 ≤ m
  all_goals by_cases h2 : m ≤ 122
  all_goals by_cases h3 : k = 95
  all_goals
    go_enter Tryd.func88, Tryd.ntmps88
    go_wp2_with fail
    all_goals go_ret
    all_goals refine ⟨?_, rfl⟩
    all_goals (simp [h1, h2, h3] <;> omega)
set_option maxHeartbeats 1000000 in
theorem goesOn_any (c : UInt8) (w : World) : Calls Tryd.prog 89 #[.int .u8 c.toNat] w fun e w' => e = .returned (.bool (nameG c)) ∧ w' = w := by
  have HB := Lib.hid (begins_any c)
  rw [nameG_nat]
  generalize nameB c = b at *
  generalize c.toNat = k at *
  by_cases h1 : 48 ≤ k
  all_goals by_cases h2 : k ≤ 57
  all_goals cases b
  all_goals
    go_enter Tryd.func89, Tryd.ntmps89
    go_wp2_with fail
    refine (HB.out _).mono ?_
    rintro e w' ⟨rfl, rfl⟩
    go_wp2_with fail
    all_goals go_ret
    all_goals refine ⟨?_, rfl⟩
    all_goals (simp [h1, h2] <;> omega)
def cAt (L : List UInt8) (i : Nat) : Nat := (L[i]?.map UInt8.toNat).getD 0
def byteV (L : List UInt8) (i : Nat) : Value := .tuple #[.int .u8 (cAt L i), .bool (decide (i < L.length))]
theorem cAt_in {L : List UInt8} {i : Nat} (h : i < L.length) : cAt L i = L[i].toNat := by unfold cAt; rw [List.getElem?_eq_getElem h]; rfl
theorem cAt_out {L : List UInt8} {i : Nat} (h : L.length ≤ i) : cAt L i = 0 := by unfold cAt; rw [List.getElem?_eq_none h]; rfl
theorem byteV_in {L : List UInt8} {i : Nat} (h : i < L.length) : byteV L i = .tuple #[.int .u8 L[i].toNat, .bool true] := by unfold byteV; rw [cAt_in h, decide_eq_true h]
theorem byteV_out {L : List UInt8} {i : Nat} (h : L.length ≤ i) : byteV L i = .tuple #[.int .u8 0, .bool false] := by unfold byteV; rw [cAt_out h, decide_eq_false (by omega)]; rfl
theorem ba_len (s : ByteArray) : s.data.toList.length = s.size := rfl
set_option maxHeartbeats 1000000 in
theorem byte_any (s : ByteArray) (i : Nat) (w : World) : Calls Tryd.prog 45 #[.agg #[.string s], .int .i64 i] w (Ret w (byteV s.data.toList i)) := by
  by_cases h : i < s.size
  · have hv := byteV_in (L := s.data.toList) (i := i) (by rw [ba_len]; exact h)
    rw [hv]
    clear hv
    go_enter Tryd.func45, Tryd.ntmps45
    go_wp2_with fail
    go_ret2
    exact ⟨rfl, (Below.refl _ _).alloc (Nat.le_refl _) _⟩
  · rw [byteV_out (by rw [ba_len]; omega)]
    go_enter Tryd.func45, Tryd.ntmps45
    go_wp2_with fail
    go_ret2
    exact ⟨rfl, (Below.refl _ _).alloc (Nat.le_refl _) _⟩
theorem blen_any (s : ByteArray) (w : World) : Calls Tryd.prog 69 #[.agg #[.string s]] w (Ret w (.int .i64 s.size)) := by
  go_enter Tryd.func69, Tryd.ntmps69
  go_wp2_with fail
  go_ret
  exact ⟨rfl, (Below.refl _ _).alloc (Nat.le_refl _) _⟩
end Go.Proofs.YtlhpflilpdceiaaDoor
