/- The walk over code.quote at a text all of whose bytes stand for themselves. -/
import Derived.Test.YtpogngdddendiaaDoorCodeP
set_option linter.unusedVariables false
set_option linter.unusedSimpArgs false
namespace Go.Proofs.YtpogngdddendiaaDoor
open Go.RowKit

/-- Does a byte stand for itself between quotes? -/
def plainQ (c : UInt8) : Bool := decide (32 ≤ (c.toNat : Int)) && decide ((c.toNat : Int) ≤ 126) && !((c.toNat : Int) == 34) && !((c.toNat : Int) == 92)
theorem take_succQ (s : ByteArray) (k : Nat) (h : k < s.size) : s.data.toList.take (k + 1) = s.data.toList.take k ++ [s[k]] := by
  rw [List.take_succ_eq_append_getElem (by simpa using h)]; rfl
theorem u8_ofQ (c : UInt8) : (c.toNat : Int).toNat.toUInt8 = c := by simp
set_option maxRecDepth 100000 in
set_option maxHeartbeats 4000000 in
theorem quoteP_any (s : ByteArray) (w : World) (hs : s.size ≤ 4000000) (hpl : ∀ k (h : k < s.size), plainQ s[k] = true) :
    Calls Tryd.prog 140 #[.string s] w (Ret w (.string ⟨([34] ++ s.data.toList ++ [34]).toArray⟩)) := by
  have HPL := Lib.hid hpl
  clear hpl
  obtain ⟨out, hout⟩ : ∃ out, [34] ++ s.data.toList ++ [34] = out := ⟨_, rfl⟩
  have HOUT := Lib.hid hout
  rw [hout]
  clear hout
  go_enter Tryd.func140, Tryd.ntmps140
  go_wp2_with fail
  have hB0 := Bld.fresh w
  have hb0 : Below w.heap.size w (w.alloc (.cells #[.pointer none, .slice none 0 0] 158)) := (Below.refl _ _).alloc (Nat.le_refl _) _
  refine (writeByte_any _ _ [] 34 _ hB0 (by simp) hb0.size).mono ?_
  rintro e w1 ⟨rfl, hB1, hb1, _⟩
  have HB1 := Lib.hid (show Bld w.heap.size w.heap.size ([34] ++ s.data.toList.take 0) w1 by simpa using hB1)
  have HR1 := Lib.hid (hb0.trans hb1)
  clear hB0 hb0 hB1 hb1
  go_wp2_with fail
  go_loopw [9] (fun i wr => ∃ k : Nat, k ≤ s.size ∧ i = .int .i64 k ∧ Hid (Bld w.heap.size w.heap.size ([34] ++ s.data.toList.take k) wr) ∧ Hid (Below w.heap.size w wr)) (fun i _ => s.size - (intOf i).toNat)
  case atStart => exact ⟨0, Nat.zero_le _, rfl, HB1, HR1⟩
  case round =>
    obtain ⟨k, hk, rfl, HB, HR⟩ := hrel
    by_cases hlt : k < s.size
    · have HS := Lib.hid (show [34] ++ s.data.toList.take (k + 1) = [34] ++ s.data.toList.take k ++ [s[k]] by rw [take_succQ s k hlt]; simp)
      have HLEN := Lib.hid (show ([34] ++ s.data.toList.take k).length ≤ 4000001 by simp; omega)
      have hpk := HPL.out k hlt
      have HU := Lib.hid (u8_ofQ s[k])
      obtain ⟨c, hc⟩ : ∃ c, c = s[k] := ⟨_, rfl⟩
      have HC := Lib.hid hc
      rw [← hc] at hpk HU HS
      unfold plainQ at hpk
      simp only [Bool.and_eq_true, Bool.not_eq_true', decide_eq_true_eq] at hpk
      obtain ⟨⟨⟨g1, g2⟩, g3⟩, g4⟩ := hpk
      replace g3 : ((c.toNat : Int) != 34) = true := by rw [bne, g3]; rfl
      replace g4 : ((c.toNat : Int) != 92) = true := by rw [bne, g4]; rfl
      obtain ⟨tk, htk⟩ : ∃ tk, [34] ++ s.data.toList.take k = tk := ⟨_, rfl⟩
      rw [htk] at HS HLEN HB
      clear htk hc
      go_upto_region 7 with (fail)
      rw [← HC.out]
      go_wp2_with fail
      refine (writeByte_any _ _ tk c _ HB.out (by have := HLEN.out; omega) HR.out.size).mono ?_
      rintro e w1 ⟨rfl, hB5, hb5, _⟩
      have HB5 := Lib.hid hB5
      have HR5 := Lib.hid (HR.out.trans hb5)
      clear hB5 hb5
      go_wp2_with fail
      go_roundw
      case rel => exact ⟨k + 1, by omega, by go_num, Lib.hid (by rw [HS.out]; exact HB5.out), HR5⟩
      case measure => simp [intOf]; omega
    · obtain rfl : s.size = k := by omega
      have HF := Lib.hid (show s.data.toList.take s.size = s.data.toList from List.take_of_length_le (by simp))
      have HLEN := Lib.hid (show ([34] ++ s.data.toList.take s.size).length ≤ 4000001 by simp; omega)
      rw [HF.out] at HB HLEN
      obtain ⟨tk, htk⟩ : ∃ tk, [34] ++ s.data.toList = tk := ⟨_, rfl⟩
      have HK := Lib.hid htk
      rw [htk] at HLEN HB
      clear htk
      go_wp2_with fail
      refine (writeByte_any _ _ tk 34 _ HB.out (by have := HLEN.out; omega) HR.out.size).mono ?_
      rintro e w1 ⟨rfl, hB5, hb5, _⟩
      have HB5 := Lib.hid hB5
      have HR5 := Lib.hid (HR.out.trans hb5)
      clear hB5 hb5
      go_wp2_with fail
      refine (Tryd.Builder_String_any _ _ _ _ HB5.out HR5.out.size).mono ?_
      rintro e w1 ⟨rfl, hb1⟩
      have HR1 := Lib.hid (HR5.out.trans hb1)
      go_wp2_with fail
      go_ret
      exact ⟨by rw [← HOUT.out, HK.out]; rfl, HR1.out⟩
end Go.Proofs.YtpogngdddendiaaDoor
