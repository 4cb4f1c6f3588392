/- The walks over patoisref2.Escape and has: they say what package pattern's say. Bounds on the lengths. -/
import Derived.Test.YtckcpokfjofcaaaRef2W3
import Derived.Deep.CutRange
import Derived.Outline
set_option linter.unusedVariables false
set_option linter.unusedSimpArgs false
namespace Go.Proofs.Ytckcpokfjofcaaa
open Go.RowKit

theorem take_u8 (s : ByteArray) (k : Nat) (h : k < s.size) : s.data.toList.take (k + 1) = s.data.toList.take k ++ [s[k]] := by
  rw [List.take_succ_eq_append_getElem h]; rfl
theorem esc_snoc (l : List UInt8) (c : UInt8) : escapeL (l ++ [c]) = escapeL l ++ (if escB c then [92, c] else [c]) := by simp [escapeL]
set_option maxRecDepth 100000 in
set_option maxHeartbeats 4000000 in
theorem escape2_any (s : ByteArray) (w : World) (hs : s.size ≤ 1000000) : Calls Try.prog 9 #[.string s] w (Ret w (.string ⟨(escapeL s.data.toList).toArray⟩)) := by
  obtain ⟨i0, hi, hz0, hz1, hz2⟩ := info_parts infoU8
  have SC := Lib.hid (fun (c : UInt8) W => special2_any c W)
  go_enter Try.func9, Try.ntmps9
  go_wp2_with fail
  go_loopw [3, 4] (fun v iv wr => ∃ (k n : Nat) (A' : Option Addr) (c' : Nat), k ≤ s.size ∧ n ≤ 2 * k ∧ iv = .int .i64 k ∧ v = .slice A' n c' ∧ wr.ownsRow w.heap.size 5 1 (.slice A' n c') n ((escapeL (s.data.toList.take k)).flatMap byc) ∧ Below w.heap.size w wr ∧ Hid (n = (escapeL (s.data.toList.take k)).length)) (fun _ iv _ => s.size - (intOf iv).toNat)
  case atStart => exact ⟨0, 0, none, 0, Nat.zero_le _, Nat.zero_le _, rfl, rfl, World.ownsRow_nil _ _ _ _, Below.refl _ _, rfl⟩
  case round =>
    obtain ⟨k, n, A', c', hk, hn, rfl, rfl, hown, hb, HN⟩ := hrel
    by_cases hlt : k < s.size
    · have HT := Lib.hid (take_u8 s k hlt)
      obtain ⟨d, hd⟩ : ∃ d, d = s[k] := ⟨_, rfl⟩
      have HE := Lib.hid (show escapeL (s.data.toList.take (k + 1)) = escapeL (s.data.toList.take k) ++ (if escB d then [92, d] else [d]) by rw [HT.out, esc_snoc, hd])
      have SD := Lib.hid (fun W => SC.out d W)
      obtain ⟨b, hbb⟩ : ∃ b, b = escB d := ⟨_, rfl⟩
      rw [← hbb] at HE SD
      have hd' : s[k] = d := hd.symm
      have HD := Lib.hid hd'
      clear hbb hd hd' HT
      go_wp2_with fail
      rw [HD.out]
      refine (SD.out _).mono ?_
      rintro e w1 ⟨rfl, rfl⟩
      cases b
      · go_wp2_with (at_builtin; refine wpList_push rfl _ _ _ rfl Try.underlying44 hi hz0 hz1 hz2 rfl (by decide) hown rfl rfl rfl (by simp [Value.oneCell']) (by omega) (by decide) (hb).size ?_; intro A2 c2 w2 ho2 hb2 hoo2)
        go_roundw
        case rel => exact ⟨k + 1, n + 1, A2, c2, by omega, by omega, by go_num, rfl, by rw [HE.out]; simpa [byc, HD.out] using ho2, hb.trans hb2, Lib.hid (by rw [HE.out, List.length_append, ← HN.out]; rfl)⟩
        case measure => simp [intOf]; omega
      · go_upto_region 7 with (at_builtin; refine wpList_push rfl _ _ _ rfl Try.underlying44 hi hz0 hz1 hz2 rfl (by decide) hown rfl rfl rfl (by simp [Value.oneCell']) (by omega) (by decide) hb.size ?_; intro A2 c2 w2 ho2 hb2 hoo2)
        have hb12 := hb.trans hb2
        clear hown
        go_wp2_with (at_builtin; refine wpList_push rfl _ _ _ rfl Try.underlying44 hi hz0 hz1 hz2 rfl (by decide) ho2 rfl rfl rfl (by simp [Value.oneCell']) (by omega) (by decide) (hb12).size ?_; intro A3 c3 w3 ho3 hb3 hoo3)
        go_roundw
        case rel => exact ⟨k + 1, n + 1 + 1, A3, c3, by omega, by omega, by go_num, rfl, by rw [HE.out]; simpa [byc, HD.out] using ho3, hb12.trans hb3, Lib.hid (by rw [HE.out, List.length_append, ← HN.out]; rfl)⟩
        case measure => simp [intOf]; omega
    · obtain rfl : s.size = k := by omega
      have hcv := conv_any hown HN.out
      rw [show s.data.toList.take s.size = s.data.toList from List.take_of_length_le (Nat.le_refl _)] at hcv
      go_wp2_with fail
      go_ret
      exact ⟨rfl, hb⟩
end Go.Proofs.Ytckcpokfjofcaaa
