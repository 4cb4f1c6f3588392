/- PatternSays: for every text, text and list of texts the law answers true. No condition. -/
import Derived.Test.YtckcpokfjofcaaaRef2W9
import Derived.Test.YtckcpokfjofcaaaRef2C
import Derived.Test.YtckcpokfjofcaaaAnyW
import Derived.Test.YtckcpokfjofcaaaPatF
import Derived.Test.YtckcpokfjofcaaaPartsL
import Derived.Deep.DeepCutAuto
import Derived.Outline
set_option linter.unusedVariables false
set_option linter.unusedSimpArgs false
namespace Go.Proofs.Ytckcpokfjofcaaa
open Go.RowKit

set_option maxHeartbeats 8000000 in
set_option maxRecDepth 100000 in
theorem says_list (P S : List UInt8) (A0 : Option Addr) (cp : Nat) (L : List (List UInt8)) (w : World) (hrd : RdL w 1 strq A0 L) :
    Calls Try.prog 3 #[.string ⟨P.toArray⟩, .string ⟨S.toArray⟩, .slice A0 L.length cp] w fun e w' => e = .returned (.bool true) ∧ Below w.heap.size w w' := by
  obtain ⟨n, hn⟩ : ∃ n, n = L.length := ⟨_, rfl⟩
  rw [← hn]
  have HN := Lib.hid hn
  clear hn
  go_enter Try.func3, Try.ntmps3
  go_wp2_with fail
  refine (first_any _).mono ?_
  rintro e w1 ⟨rfl, hb⟩
  by_cases h1 : 60 < P.length
  · go_wp2_with fail
    go_ret
    exact ⟨rfl, hb⟩
  by_cases h2 : 60 < S.length
  · go_wp2_with fail
    go_ret
    exact ⟨rfl, hb⟩
  by_cases h3 : 20 < n
  · go_wp2_with fail
    go_ret
    exact ⟨rfl, hb⟩
  go_wp2_with fail
  go_loopw [8, 9] (fun v i wr => ∃ k : Nat, k ≤ n ∧ i = .int .i64 k ∧ v = .bool ((L.take k).any fun x => matchL x S) ∧ Below w.heap.size w wr ∧ Hid (∀ x ∈ L.take k, x.length ≤ 60))
    (fun _ i _ => n - (intOf i).toNat)
  case atStart => exact ⟨0, Nat.zero_le _, rfl, by simp, hb, Lib.hid (by intro c hc; simp at hc)⟩
  case round =>
    clear hb
    obtain ⟨k, hk, rfl, rfl, hb, H⟩ := hrel
    by_cases hlt : k < n
    · have hkL : k < L.length := by rw [← HN.out]; exact hlt
      obtain ⟨b, o, rfl⟩ := hrd.at0 hkL
      have cx := (hrd.below hb).str2 hkL
      have HT := Lib.hid (List.take_succ_eq_append_getElem hkL)
      obtain ⟨z, hz⟩ : ∃ z, z = L[k] := ⟨_, rfl⟩
      rw [← hz] at cx HT
      clear hz hkL
      have HA := Lib.hid (show (L.take (k + 1)).any (fun x => matchL x S) = ((L.take k).any (fun x => matchL x S) || matchL z S) by rw [HT.out, List.any_append, List.any_cons, List.any_nil, Bool.or_false])
      by_cases hzl : 60 < z.length
      · go_wp2_with fail
        go_ret
        exact ⟨rfl, hb⟩
      · have HZ := Lib.hid (show ∀ x ∈ L.take (k + 1), x.length ≤ 60 from fun x hx => by
          rw [HT.out, List.mem_append, List.mem_singleton] at hx
          rcases hx with hx | rfl
          · exact H.out x hx
          · omega)
        have CM := Lib.hid (show ∀ W, Calls Try.prog 5 #[.string ⟨z.toArray⟩, .string ⟨S.toArray⟩] W (Ret W (.bool (matchL z S))) from fun W => match2_any ⟨z.toArray⟩ ⟨S.toArray⟩ W (by simp [ByteArray.size]; omega) (by simp [ByteArray.size]; omega))
        generalize matchL z S = mb at *
        obtain ⟨ab, hab⟩ : ∃ ab, (L.take k).any (fun x => matchL x S) = ab := ⟨_, rfl⟩
        rw [hab] at HA ⊢
        clear hab HT
        cases ab with
        | true =>
          go_wp2_with fail
          go_roundw
          case rel => exact ⟨k + 1, by omega, by go_num, congrArg Value.bool (by rw [HA.out]; rfl), hb, HZ⟩
          case measure => simp [intOf]; omega
        | false =>
          go_wp2_with fail
          refine (Hid.out CM _).mono ?_
          rintro e w2 ⟨rfl, hbn⟩
          replace hb := hb.trans (hbn.mono hb.size)
          clear hbn
          go_wp2_with fail
          go_roundw
          case rel => exact ⟨k + 1, by omega, by go_num, congrArg Value.bool (by rw [HA.out]; rfl), hb, HZ⟩
          case measure => simp [intOf]; omega
    · obtain rfl : n = k := by omega
      have HL := Lib.hid (show ∀ x ∈ L, x.length ≤ 60 from fun x hx => H.out x (by rw [HN.out, List.take_length]; exact hx))
      have HTL := Lib.hid (show L.take n = L by rw [HN.out, List.take_length])
      rw [HTL.out]
      clear H HTL hlt hk
      have hPs : (⟨P.toArray⟩ : ByteArray).size ≤ 1000000 := by simp [ByteArray.size]; omega
      have hSs : (⟨S.toArray⟩ : ByteArray).size ≤ 1000000 := by simp [ByteArray.size]; omega
      have hPl : (splitL P).length ≤ 1000000 := by have := split_len P; omega
      have C1 := Lib.hid (fun W => closed_any ⟨P.toArray⟩ W (Nat.le_trans hPs (by decide)))
      have C2 := Lib.hid (fun W => closed2_any P W (by omega))
      have C3 := Lib.hid (fun W => escape_any ⟨P.toArray⟩ W hPs)
      have C4 := Lib.hid (fun W => escape2_any ⟨P.toArray⟩ W hPs)
      have C5 := Lib.hid (fun W => plain_any ⟨P.toArray⟩ W hPs)
      have C6 := Lib.hid (fun W => plain2_any ⟨P.toArray⟩ W hPs)
      have C7 := Lib.hid (fun W => live_any ⟨P.toArray⟩ W hPs)
      have C8 := Lib.hid (fun W => live2_any ⟨P.toArray⟩ W hPs)
      have C9 := Lib.hid (fun W => match_any ⟨P.toArray⟩ ⟨S.toArray⟩ W hPs hSs)
      have C10 := Lib.hid (fun W => match2_any ⟨P.toArray⟩ ⟨S.toArray⟩ W hPs hSs)
      have C11 := Lib.hid (fun W => split_any ⟨P.toArray⟩ W hPs)
      have C12 := Lib.hid (show ∀ W, Calls Try.prog 17 #[.string ⟨P.toArray⟩] W (SortRet (splitL P) W) from fun W => split2_any ⟨P.toArray⟩ W hPs)
      have C14 := Lib.hid (fun W (h : RdL W 1 strq A0 L) => pany_any ⟨S.toArray⟩ A0 cp L W h (by rw [← HN.out]; omega) (fun x hx => Nat.le_trans (HL.out x hx) (by decide)) hSs)
      have C15 := Lib.hid (fun W (h : RdL W 1 strq A0 L) => files_any P A0 cp L W h (by omega) (by rw [← HN.out]; omega) (fun x hx => Nat.le_trans (HL.out x hx) (by decide)))
      have C16 := Lib.hid (fun W (h : RdL W 1 strq A0 L) => files2_any P A0 cp L W h (by rw [← HN.out]; omega) (by omega) (fun x hx => Nat.le_trans (HL.out x hx) (by decide)))
      simp only [show (⟨P.toArray⟩ : ByteArray).data.toList = P from rfl, show (⟨S.toArray⟩ : ByteArray).data.toList = S from rfl, ← HN.out] at C1 C3 C4 C5 C6 C7 C8 C9 C10 C14 C15 C16
      clear hPs hSs h1 h2 h3 HL
      have hfl : (filesL P L).length ≤ 1000000 := by have := files_len P L; rw [← HN.out] at this; omega
      generalize openOf P = q1 at *
      generalize escapeL P = q2 at *
      generalize plainL P = q3 at *
      generalize liveL P = q4 at *
      generalize matchL P S = q5 at *
      generalize (L.any fun x => matchL x S) = q6 at *
      generalize splitL P = sp at *
      generalize filesL P L = fl at *
      go_wp2_with fail
      refine (Hid.out C1 _).mono ?_
      rintro e w2 ⟨rfl, hbn⟩
      replace hb := hb.trans (hbn.mono hb.size)
      clear hbn
      go_wp2_with fail
      refine (C2.out _).mono ?_
      rintro e w3 ⟨rfl, rfl⟩
      go_wp2_with fail
      refine (Hid.out C3 _).mono ?_
      rintro e w4 ⟨rfl, hbn⟩
      replace hb := hb.trans (hbn.mono hb.size)
      clear hbn
      go_wp2_with fail
      refine (Hid.out C4 _).mono ?_
      rintro e w5 ⟨rfl, hbn⟩
      replace hb := hb.trans (hbn.mono hb.size)
      clear hbn
      go_wp2_with fail
      refine (Hid.out C5 _).mono ?_
      rintro e w6 ⟨rfl, hbn⟩
      replace hb := hb.trans (hbn.mono hb.size)
      clear hbn
      go_wp2_with fail
      refine (Hid.out C6 _).mono ?_
      rintro e w7 ⟨rfl, hbn⟩
      replace hb := hb.trans (hbn.mono hb.size)
      clear hbn
      go_wp2_with fail
      refine (Hid.out C7 _).mono ?_
      rintro e w8 ⟨rfl, hbn⟩
      replace hb := hb.trans (hbn.mono hb.size)
      clear hbn
      go_wp2_with fail
      refine (Hid.out C8 _).mono ?_
      rintro e w9 ⟨rfl, hbn⟩
      replace hb := hb.trans (hbn.mono hb.size)
      clear hbn
      go_wp2_with fail
      refine (Hid.out C9 _).mono ?_
      rintro e w10 ⟨rfl, hbn⟩
      replace hb := hb.trans (hbn.mono hb.size)
      clear hbn
      go_wp2_with fail
      refine (Hid.out C10 _).mono ?_
      rintro e w11 ⟨rfl, hbn⟩
      replace hb := hb.trans (hbn.mono hb.size)
      clear hbn
      go_wp2_with fail
      refine (C11.out _).mono ?_
      rintro e w12 ⟨A12, c12, rfl, hown12, hbn⟩
      obtain ⟨_, _, he, _, _, hra, _⟩ := RdL.of_own strc_len hown12 rfl
      injection he with he1 _ he2
      subst he1 he2
      replace hb := hb.trans (hbn.mono hb.size)
      clear hbn hown12
      go_wp2_with fail
      refine (C12.out _).mono ?_
      rintro e w13 ⟨v, rfl, hown13, hbn⟩
      obtain ⟨A13, c13, rfl, _, _, hrc, _⟩ := RdL.of_own strq_len hown13 rfl
      replace hb := hb.trans (hbn.mono hb.size)
      replace hra := hra.below hbn
      clear hbn hown13
      have C13 := Lib.hid (sameTexts_any A12 A13 c12 c13 sp sp w13 hra hrc hPl hPl)
      rw [decide_eq_true rfl] at C13
      clear hra hrc
      go_wp2_with fail
      refine C13.out.mono ?_
      rintro e w14 ⟨rfl, hbn⟩
      replace hb := hb.trans (hbn.mono hb.size)
      clear hbn C13
      go_wp2_with fail
      refine (C14.out _ (hrd.below hb)).mono ?_
      rintro e w15 ⟨rfl, hbn⟩
      replace hb := hb.trans (hbn.mono hb.size)
      clear hbn
      go_wp2_with fail
      refine (C15.out _ (hrd.below hb)).mono ?_
      rintro e w16 ⟨A16, c16, rfl, hown16, hbn⟩
      obtain ⟨_, _, he, _, _, hra, _⟩ := RdL.of_own strc_len hown16 rfl
      injection he with he1 _ he2
      subst he1 he2
      replace hb := hb.trans (hbn.mono hb.size)
      clear hbn hown16
      go_wp2_with fail
      refine (C16.out _ (hrd.below hb)).mono ?_
      rintro e w17 ⟨v, rfl, hown17, hbn⟩
      obtain ⟨A17, c17, rfl, _, _, hrc, _⟩ := RdL.of_own strq_len hown17 rfl
      replace hb := hb.trans (hbn.mono hb.size)
      replace hra := hra.below hbn
      clear hbn hown17
      have C17 := Lib.hid (sameTexts_any A16 A17 c16 c17 fl fl w17 hra hrc hfl hfl)
      rw [decide_eq_true rfl] at C17
      clear hra hrc
      go_wp2_with fail
      refine C17.out.mono ?_
      rintro e w18 ⟨rfl, hbn⟩
      replace hb := hb.trans (hbn.mono hb.size)
      clear hbn C17
      go_wp2_with fail
      go_ret
      exact ⟨rfl, hb⟩

theorem says_walk (p s : ByteArray) (A : Option Addr) (c : Nat) (L : List (List UInt8)) (w : World) (hrd : RdL w 1 (fun s : List UInt8 => [Value.string ⟨s.toArray⟩]) A L) :
    Calls Try.prog 3 #[.string p, .string s, .slice A L.length c] w fun e w' => e = .returned (.bool true) ∧ Below w.heap.size w w' :=
  says_list p.data.toList s.data.toList A c L w hrd
end Go.Proofs.Ytckcpokfjofcaaa
